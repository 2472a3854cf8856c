import Derived.Test.YtgbbmfafdbafjaaProg
import Derived.Test.YtgbbmfafdbafjaaFb
import Derived.Test.YtgbbmfafdbafjaaFp
import Derived.Test.YtgbbmfafdbafjaaAb23
import Derived.KernelRfl
set_option linter.unusedVariables false
namespace Go.AB
open Go Go.Proofs
def m22_L1 (n : Nat) (a0 : (List UInt8)) (k_24 : Int → Option (Int × Int)) (nx_16 : (Int × Int) → Option (Int × Int)) (x_15 : (Int × Int)) : Option (Int × Int) :=
  (if (decide (x_15.2 < (a0.length : Int))) = true then ((getIdx a0 x_15.2).bind fun c_17 => (jn (fun p_20 : Int => (letM ((IntKind.wrap .i64 (x_15.2 + (1 : Int)))) fun t5_22 => (nx_16 (p_20, t5_22)))) fun k_21 => (if ((decide ((48 : Int) ≤ (c_17.toNat : Int))) && (decide ((c_17.toNat : Int) ≤ (57 : Int)))) = true then (letM ((IntKind.wrap .u64 ((IntKind.wrap .u64 (x_15.1 * (16 : Int))) + (IntKind.wrap .u64 (IntKind.wrap .u8 ((c_17.toNat : Int) - (48 : Int))))))) fun t4_18 => (k_21 t4_18)) else (if ((decide ((97 : Int) ≤ (c_17.toNat : Int))) && (decide ((c_17.toNat : Int) ≤ (102 : Int)))) = true then (letM ((IntKind.wrap .u64 ((IntKind.wrap .u64 ((IntKind.wrap .u64 (x_15.1 * (16 : Int))) + (IntKind.wrap .u64 (IntKind.wrap .u8 ((c_17.toNat : Int) - (97 : Int)))))) + (10 : Int)))) fun t4_19 => (k_21 t4_19)) else (some ((0 : Int), (3 : Int))))))) else (k_24 x_15.1))
def m22 (n : Nat) (a0 : (List UInt8)) : Option (Int × Int) :=
  (if (!decide ((a0.length : Int) = (16 : Int))) = true then (some ((0 : Int), (3 : Int))) else (jn (fun p_23 : Int => (some (p_23, (0 : Int)))) fun k_24 => (loopM (m22_L1 n a0 k_24) n ((0 : Int), (0 : Int)))))
theorem c22 (n : Nat) (a0 : (List UInt8)) {r : (Int × Int)} (h : m22 n a0 = some r) : Spec Try.prog 22 [] [.sc (.string (mkS a0))] [] (.tup [.sc (.int .u64 r.1), .sc (.int .i64 r.2)]) [] := by
  refine Spec.of (fn := Try.f22) Try.func22 Try.ntmps22 rfl rfl (le1 rfl) (fun w0 Zs Zb T0 ι0 => ?_)
  unfold m22 at h
  refine AWP.seq ?_
  refine AWP.region (.cons (.assign (lt1 rfl) (.const _ _ _)) <| .cons (.assign (lt1 rfl) (.const _ _ _)) <| ARun.nil _ _ _) ?_
  refine AWP.vc (s' := ⟨[(0, .sc (.string (mkS a0)))], []⟩) (VC.sub (.c rfl <| .n _) (.n _)) ?_
  refine AWP.seq ?_
  refine AWP.seq ?_
  refine AWP.region (.cons (.move (lt1 rfl) (.tmp rfl)) <| .cons (.lenS (lt1 rfl) (.tmp rfl) Try.underlying9) <| .cons (.neq (lt1 rfl) (.tmp rfl) (.const _ _ _)) <| ARun.nil _ _ _) ?_
  refine AWP.vc (s' := ⟨[(0, .sc (.string (mkS a0))), (9, .sc (.bool (!decide ((a0.length : Int) = (16 : Int)))))], []⟩) (VC.sub (.c rfl <| .c rfl <| .n _) (.n _)) ?_
  refine AWP.cond (.tmp rfl) (fun hc => ?_) (fun hc => ?_)
  · have h := iteT hc h
    refine AWP.seq ?_
    refine AWP.region (.cons (.assign (lt1 rfl) (.const _ _ _)) <| .cons (.assign (lt1 rfl) (.const _ _ _)) <| ARun.nil _ _ _) ?_
    refine AWP.ret ?_
    obtain rfl := Option.some.inj h
    exact retJ (Res.vc (s' := ⟨[(2, .sc (.int .u64 (0 : Int))), (3, .sc (.int .i64 (3 : Int)))], []⟩) (VC.sub (.c rfl <| .c rfl <| .n _) (.n _)) (Res.drop rfl (Res.of rfl (.cons (.tmp rfl) (.cons (.tmp rfl) (.nil))) rfl rfl)))
  · have h := iteF hc h
    refine AWP.skip ?_
    refine AWP.seq ?_
    refine AWP.region (.cons (.assign (lt1 rfl) (.const _ _ _)) <| ARun.nil _ _ _) ?_
    refine AWP.vc (s' := ⟨[(0, .sc (.string (mkS a0))), (4, .sc (.int .u64 (0 : Int)))], []⟩) (VC.sub (.c rfl <| .c rfl <| .n _) (.n _)) ?_
    refine AWP.seq ?_
    refine AWP.seq ?_
    refine AWP.region (.cons (.assign (lt1 rfl) (.const _ _ _)) <| ARun.nil _ _ _) ?_
    refine AWP.vc (s' := ⟨[(0, .sc (.string (mkS a0))), (4, .sc (.int .u64 (0 : Int))), (5, .sc (.int .i64 (0 : Int)))], []⟩) (VC.sub (.c rfl <| .c rfl <| .c rfl <| .n _) (.n _)) ?_
    refine AWP.joinB' (S := fun p_23 : Int => ⟨[(4, .sc (.int .u64 p_23))], []⟩) h (fun p_23 h => ?_) (fun k_24 h => ?_)
    · refine AWP.seq ?_
      refine AWP.region (.cons (.move (lt1 rfl) (.tmp rfl)) <| .cons (.assign (lt1 rfl) (.tmp rfl)) <| .cons (.assign (lt1 rfl) (.const _ _ _)) <| ARun.nil _ _ _) ?_
      refine AWP.ret ?_
      obtain rfl := Option.some.inj h
      exact retJ (Res.vc (s' := ⟨[(2, .sc (.int .u64 p_23)), (3, .sc (.int .i64 (0 : Int)))], []⟩) (VC.sub (.c rfl <| .c rfl <| .n _) (.n _)) (Res.drop rfl (Res.of rfl (.cons (.tmp rfl) (.cons (.tmp rfl) (.nil))) rfl rfl)))
    · refine AWP.vc (s' := ⟨[(0, .sc (.string (mkS a0))), (4, .sc (.int .u64 (0 : Int))), (5, .sc (.int .i64 (0 : Int)))], []⟩) (VC.sub (.c rfl <| .c rfl <| .c rfl <| .n _) (.n _)) ?_
      refine AWP.loopM (S := fun x_15 : Int × Int => ⟨[(0, .sc (.string (mkS a0))), (4, .sc (.int .u64 x_15.1)), (5, .sc (.int .i64 x_15.2))], []⟩) (x := ((0 : Int), (0 : Int))) (fun nx_16 x_15 h => ?_) h
      unfold m22_L1 at h
      refine AWP.seq ?_
      refine AWP.seq ?_
      refine AWP.region (.cons (.move (lt1 rfl) (.tmp rfl)) <| .cons (.move (lt1 rfl) (.tmp rfl)) <| .cons (.lenS (lt1 rfl) (.tmp rfl) Try.underlying9) <| .cons (.lss (lt1 rfl) (.tmp rfl) (.tmp rfl)) <| ARun.nil _ _ _) ?_
      refine AWP.vc (s' := ⟨[(0, .sc (.string (mkS a0))), (4, .sc (.int .u64 x_15.1)), (5, .sc (.int .i64 x_15.2)), (13, .sc (.bool (decide (x_15.2 < (a0.length : Int)))))], []⟩) (VC.sub (.c rfl <| .c rfl <| .c rfl <| .c rfl <| .n _) (.n _)) ?_
      refine AWP.cond (.tmp rfl) (fun hc => ?_) (fun hc => ?_)
      · have h := iteT hc h
        refine AWP.skip ?_
        refine AWP.seq ?_
        refine AWP.block ?_
        refine AWP.seq ?_
        obtain ⟨c_17, hc_17, h⟩ := bindS h
        refine AWP.region (.cons (.move (lt1 rfl) (.tmp rfl)) <| .cons (.move (lt1 rfl) (.tmp rfl)) <| .cons (.indexS (lt1 rfl) (.tmp rfl) (.tmp rfl) Try.underlying9 hc_17) <| .cons (.assign (lt1 rfl) (.tmp rfl)) <| ARun.nil _ _ _) ?_
        refine AWP.vc (s' := ⟨[(0, .sc (.string (mkS a0))), (4, .sc (.int .u64 x_15.1)), (5, .sc (.int .i64 x_15.2)), (6, .sc (.int .u8 (c_17.toNat : Int)))], []⟩) (VC.sub (.c rfl <| .c rfl <| .c rfl <| .c rfl <| .n _) (.n _)) ?_
        refine AWP.block ?_
        refine AWP.seq ?_
        refine AWP.region (.cons (.move (lt1 rfl) (.tmp rfl)) <| .cons (.geq (lt1 rfl) (.tmp rfl) (.const _ _ _)) <| .cons (.move (lt1 rfl) (.tmp rfl)) <| .guard (j := 2) (dj := 22) rfl (lt1 rfl) rfl (lt1 rfl) (fun hg => .move (lt1 rfl) (.tmp rfl)) <| .guard (j := 2) (dj := 22) rfl (lt1 rfl) rfl (lt1 rfl) (fun hg => .leq (lt1 rfl) (.gd hg (.tmp rfl)) (.const _ _ _)) <| .cons (.pickAnd (lt1 rfl) (.tmp rfl) (.tmp rfl) (.const _ _ _)) <| .cons (.assign (lt1 rfl) (.tmp rfl)) <| ARun.nil _ _ _) ?_
        refine AWP.vc (s' := ⟨[(0, .sc (.string (mkS a0))), (4, .sc (.int .u64 x_15.1)), (5, .sc (.int .i64 x_15.2)), (6, .sc (.int .u8 (c_17.toNat : Int))), (19, .sc (.bool ((decide ((48 : Int) ≤ (c_17.toNat : Int))) && (decide ((c_17.toNat : Int) ≤ (57 : Int))))))], []⟩) (VC.sub (.c rfl <| .c rfl <| .c rfl <| .c rfl <| .c rfl <| .n _) (.n _)) ?_
        refine AWP.join' (S := fun p_20 : Int => ⟨[(0, .sc (.string (mkS a0))), (4, .sc (.int .u64 p_20)), (5, .sc (.int .i64 x_15.2))], []⟩) h (fun p_20 h => ?_) (fun k_21 h => ?_)
        · obtain ⟨t5_22, ht5_22, h⟩ := letS h
          refine AWP.region (.cons (.move (lt1 rfl) (.tmp rfl)) <| .cons (.add (lt1 rfl) (.tmp rfl) (.const _ _ _)) <| .cons (.assign (lt1 rfl) (.tmp rfl)) <| ARun.nil _ _ _) ?_
          exact endJ (p_20, t5_22) h (by subst ht5_22; exact VC.sub (.c rfl <| .c rfl <| .c rfl <| .n _) (.n _))
        · refine AWP.cond (.tmp rfl) (fun hc => ?_) (fun hc => ?_)
          · have h := iteT hc h
            obtain ⟨t4_18, ht4_18, h⟩ := letS h
            refine AWP.region (.cons (.move (lt1 rfl) (.tmp rfl)) <| .cons (.mul (lt1 rfl) (.tmp rfl) (.const _ _ _)) <| .cons (.move (lt1 rfl) (.tmp rfl)) <| .cons (.sub (lt1 rfl) (.tmp rfl) (.const _ _ _)) <| .cons (.conv (lt1 rfl) (.tmp rfl) Try.underlying5 Try.underlying23) <| .cons (.add (lt1 rfl) (.tmp rfl) (.tmp rfl)) <| .cons (.assign (lt1 rfl) (.tmp rfl)) <| ARun.nil _ _ _) ?_
            exact endJ t4_18 h (by subst ht4_18; exact VC.sub (.c rfl <| .c rfl <| .c rfl <| .n _) (.n _))
          · have h := iteF hc h
            refine AWP.seq ?_
            refine AWP.region (.cons (.move (lt1 rfl) (.tmp rfl)) <| .cons (.geq (lt1 rfl) (.tmp rfl) (.const _ _ _)) <| .cons (.move (lt1 rfl) (.tmp rfl)) <| .guard (j := 2) (dj := 35) rfl (lt1 rfl) rfl (lt1 rfl) (fun hg => .move (lt1 rfl) (.tmp rfl)) <| .guard (j := 2) (dj := 35) rfl (lt1 rfl) rfl (lt1 rfl) (fun hg => .leq (lt1 rfl) (.gd hg (.tmp rfl)) (.const _ _ _)) <| .cons (.pickAnd (lt1 rfl) (.tmp rfl) (.tmp rfl) (.const _ _ _)) <| .cons (.assign (lt1 rfl) (.tmp rfl)) <| ARun.nil _ _ _) ?_
            refine AWP.vc (s' := ⟨[(0, .sc (.string (mkS a0))), (4, .sc (.int .u64 x_15.1)), (5, .sc (.int .i64 x_15.2)), (6, .sc (.int .u8 (c_17.toNat : Int))), (32, .sc (.bool ((decide ((97 : Int) ≤ (c_17.toNat : Int))) && (decide ((c_17.toNat : Int) ≤ (102 : Int))))))], []⟩) (VC.sub (.c rfl <| .c rfl <| .c rfl <| .c rfl <| .c rfl <| .n _) (.n _)) ?_
            refine AWP.cond (.tmp rfl) (fun hc => ?_) (fun hc => ?_)
            · have h := iteT hc h
              obtain ⟨t4_19, ht4_19, h⟩ := letS h
              refine AWP.region (.cons (.move (lt1 rfl) (.tmp rfl)) <| .cons (.mul (lt1 rfl) (.tmp rfl) (.const _ _ _)) <| .cons (.move (lt1 rfl) (.tmp rfl)) <| .cons (.sub (lt1 rfl) (.tmp rfl) (.const _ _ _)) <| .cons (.conv (lt1 rfl) (.tmp rfl) Try.underlying5 Try.underlying23) <| .cons (.add (lt1 rfl) (.tmp rfl) (.tmp rfl)) <| .cons (.add (lt1 rfl) (.tmp rfl) (.const _ _ _)) <| .cons (.assign (lt1 rfl) (.tmp rfl)) <| ARun.nil _ _ _) ?_
              exact endJ t4_19 h (by subst ht4_19; exact VC.sub (.c rfl <| .c rfl <| .c rfl <| .n _) (.n _))
            · have h := iteF hc h
              refine AWP.seq ?_
              refine AWP.region (.cons (.assign (lt1 rfl) (.const _ _ _)) <| .cons (.assign (lt1 rfl) (.const _ _ _)) <| ARun.nil _ _ _) ?_
              refine AWP.ret ?_
              obtain rfl := Option.some.inj h
              exact retJ (Res.vc (s' := ⟨[(2, .sc (.int .u64 (0 : Int))), (3, .sc (.int .i64 (3 : Int)))], []⟩) (VC.sub (.c rfl <| .c rfl <| .n _) (.n _)) (Res.drop rfl (Res.of rfl (.cons (.tmp rfl) (.cons (.tmp rfl) (.nil))) rfl rfl)))
      · have h := iteF hc h
        refine AWP.exit ?_
        exact endJ x_15.1 h (VC.sub (.c rfl <| .n _) (.n _))
def m24_L1 (n : Nat) (k_22 : (List UInt8) → Option (List UInt8)) (nx_15 : (Int × Int × (List UInt8)) → Option (List UInt8)) (x_14 : (Int × Int × (List UInt8))) : Option (List UInt8) :=
  (if (decide ((0 : Int) ≤ x_14.2.1)) = true then ((getIdx ([48, 49, 50, 51, 52, 53, 54, 55, 56, 57, 97, 98, 99, 100, 101, 102] : List UInt8) (x_14.1.tmod (16 : Int))).bind fun c_16 => ((getIdx x_14.2.2 x_14.2.1).bind fun y_17 => ((setIdx x_14.2.2 x_14.2.1 c_16).bind fun l1_18 => (letM ((IntKind.wrap .u64 (x_14.1.tdiv (16 : Int)))) fun t0_19 => (letM ((IntKind.wrap .i64 (x_14.2.1 - (1 : Int)))) fun t5_20 => (nx_15 (t0_19, t5_20, l1_18))))))) else (k_22 x_14.2.2))
def m24 (n : Nat) (a0 : Int) : Option (List UInt8) :=
  ((mk (0 : UInt8) (16 : Int) (16 : Int)).bind fun l1_1 => (jn (fun p_21 : (List UInt8) => (some p_21)) fun k_22 => (loopM (m24_L1 n k_22) n (a0, (15 : Int), l1_1))))
theorem c24 (n : Nat) (a0 : Int) {r : (List UInt8)} (h : m24 n a0 = some r) : Spec Try.prog 24 [] [.sc (.int .u64 a0)] [] (.sc (.string (mkS r))) [] := by
  refine Spec.of (fn := Try.f24) Try.func24 Try.ntmps24 rfl rfl (le1 rfl) (fun w0 Zs Zb T0 ι0 => ?_)
  unfold m24 at h
  refine AWP.seq ?_
  refine AWP.region (.cons (.assign (lt1 rfl) (.const _ _ _)) <| ARun.nil _ _ _) ?_
  refine AWP.vc (s' := ⟨[(0, .sc (.int .u64 a0))], []⟩) (VC.sub (.c rfl <| .n _) (.n _)) ?_
  refine AWP.seq ?_
  refine AWP.region (.cons (.assign (lt1 rfl) (.const _ _ _)) <| ARun.nil _ _ _) ?_
  refine AWP.vc (s' := ⟨[(0, .sc (.int .u64 a0)), (3, .sc (.string (mkS ([48, 49, 50, 51, 52, 53, 54, 55, 56, 57, 97, 98, 99, 100, 101, 102] : List UInt8))))], []⟩) (VC.sub (.c rfl <| .c rfl <| .n _) (.n _)) ?_
  refine AWP.seq ?_
  obtain ⟨l1_1, hl1_1, h⟩ := bindS h
  refine AWP.region (.cons (.mkS (enc := enc8) (t := 1) (lt1 rfl) (nm rfl) (.const _ _ _) (.const _ _ _) Try.underlying22 zero5 el5 rfl enc8_len (by decide) hl1_1) <| .cons (.assign (lt1 rfl) (.tmp rfl)) <| ARun.nil _ _ _) ?_
  refine AWP.vc (s' := ⟨[(0, .sc (.int .u64 a0)), (3, .sc (.string (mkS ([48, 49, 50, 51, 52, 53, 54, 55, 56, 57, 97, 98, 99, 100, 101, 102] : List UInt8)))), (4, .own 1 1 0 l1_1.length)], [(1, ⟨5, true, l1_1.flatMap enc8⟩)]⟩) (VC.sub (.c rfl <| .c rfl <| .c rfl <| .n _) (.c rfl <| .n _)) ?_
  refine AWP.seq ?_
  refine AWP.seq ?_
  refine AWP.region (.cons (.assign (lt1 rfl) (.const _ _ _)) <| ARun.nil _ _ _) ?_
  refine AWP.vc (s' := ⟨[(0, .sc (.int .u64 a0)), (3, .sc (.string (mkS ([48, 49, 50, 51, 52, 53, 54, 55, 56, 57, 97, 98, 99, 100, 101, 102] : List UInt8)))), (4, .own 1 1 0 l1_1.length), (5, .sc (.int .i64 (15 : Int)))], [(1, ⟨5, true, l1_1.flatMap enc8⟩)]⟩) (VC.sub (.c rfl <| .c rfl <| .c rfl <| .c rfl <| .n _) (.c rfl <| .n _)) ?_
  refine AWP.joinB' (S := fun p_21 : (List UInt8) => ⟨[(4, .own 1 1 0 p_21.length)], [(1, ⟨5, true, p_21.flatMap enc8⟩)]⟩) h (fun p_21 h => ?_) (fun k_22 h => ?_)
  · refine AWP.seq ?_
    refine AWP.region (.cons (.move (lt1 rfl) (.tmp rfl)) <| .cons (.bytesStrOwn (lt1 rfl) (.tmp rfl) rfl rfl rfl Try.underlying22 Try.underlying5 Try.underlying9 rfl) <| .cons (.assign (lt1 rfl) (.tmp rfl)) <| ARun.nil _ _ _) ?_
    refine AWP.ret ?_
    obtain rfl := Option.some.inj h
    exact retJ (Res.vc (s' := ⟨[(2, .sc (.string (mkS p_21)))], []⟩) (VC.sub (.c rfl <| .n _) (.n _)) (Res.drop rfl (Res.of rfl (.cons (.tmp rfl) (.nil)) rfl rfl)))
  · refine AWP.vc (s' := ⟨[(0, .sc (.int .u64 a0)), (3, .sc (.string (mkS ([48, 49, 50, 51, 52, 53, 54, 55, 56, 57, 97, 98, 99, 100, 101, 102] : List UInt8)))), (4, .own 1 1 0 l1_1.length), (5, .sc (.int .i64 (15 : Int)))], [(1, ⟨5, true, l1_1.flatMap enc8⟩)]⟩) (VC.sub (.c rfl <| .c rfl <| .c rfl <| .c rfl <| .n _) (.c rfl <| .n _)) ?_
    refine AWP.loopM (S := fun x_14 : Int × Int × (List UInt8) => ⟨[(0, .sc (.int .u64 x_14.1)), (3, .sc (.string (mkS ([48, 49, 50, 51, 52, 53, 54, 55, 56, 57, 97, 98, 99, 100, 101, 102] : List UInt8)))), (4, .own 1 1 0 x_14.2.2.length), (5, .sc (.int .i64 x_14.2.1))], [(1, ⟨5, true, x_14.2.2.flatMap enc8⟩)]⟩) (x := (a0, (15 : Int), l1_1)) (fun nx_15 x_14 h => ?_) h
    unfold m24_L1 at h
    refine AWP.seq ?_
    refine AWP.seq ?_
    refine AWP.region (.cons (.move (lt1 rfl) (.tmp rfl)) <| .cons (.geq (lt1 rfl) (.tmp rfl) (.const _ _ _)) <| ARun.nil _ _ _) ?_
    refine AWP.vc (s' := ⟨[(0, .sc (.int .u64 x_14.1)), (3, .sc (.string (mkS ([48, 49, 50, 51, 52, 53, 54, 55, 56, 57, 97, 98, 99, 100, 101, 102] : List UInt8)))), (4, .own 1 1 0 x_14.2.2.length), (5, .sc (.int .i64 x_14.2.1)), (8, .sc (.bool (decide ((0 : Int) ≤ x_14.2.1))))], [(1, ⟨5, true, x_14.2.2.flatMap enc8⟩)]⟩) (VC.sub (.c rfl <| .c rfl <| .c rfl <| .c rfl <| .c rfl <| .n _) (.c rfl <| .n _)) ?_
    refine AWP.cond (.tmp rfl) (fun hc => ?_) (fun hc => ?_)
    · have h := iteT hc h
      refine AWP.skip ?_
      refine AWP.seq ?_
      refine AWP.block ?_
      refine AWP.seq ?_
      obtain ⟨c_16, hc_16, h⟩ := bindS h
      obtain ⟨y_17, hy_17, h⟩ := bindS h
      obtain ⟨l1_18, hl1_18, h⟩ := bindS h
      refine AWP.region (.cons (.move (lt1 rfl) (.tmp rfl)) <| .cons (.move (lt1 rfl) (.tmp rfl)) <| .cons (.move (lt1 rfl) (.tmp rfl)) <| .cons (.move (lt1 rfl) (.tmp rfl)) <| .cons (.rem (lt1 rfl) (.tmp rfl) (.const _ _ _) (by decide)) <| .cons (.indexS (lt1 rfl) (.tmp rfl) (.tmp rfl) Try.underlying9 hc_16) <| .cons (.idxOwn (lt1 rfl) (.tmp rfl) (.tmp rfl) Try.underlying22 sz5 rfl hy_17) <| .cons (.storeP (.tmp rfl) (.tmp rfl) sz5 rfl (lt_at1 enc8_len hy_17) rfl (fun _ => rfl) (set_at1 enc8_len hl1_18 rfl)) <| ARun.nil _ _ _) ?_
      refine AWP.vc (s' := ⟨[(0, .sc (.int .u64 x_14.1)), (3, .sc (.string (mkS ([48, 49, 50, 51, 52, 53, 54, 55, 56, 57, 97, 98, 99, 100, 101, 102] : List UInt8)))), (4, .own 1 1 0 l1_18.length), (5, .sc (.int .i64 x_14.2.1))], [(1, ⟨5, true, l1_18.flatMap enc8⟩)]⟩) (VC.sub (.c rfl <| .c rfl <| .c (lenC (Eq.symm (setLen hl1_18)) rfl) <| .c rfl <| .n _) (.c rfl <| .n _)) ?_
      obtain ⟨t0_19, ht0_19, h⟩ := letS h
      refine AWP.region (.cons (.move (lt1 rfl) (.tmp rfl)) <| .cons (.quo (lt1 rfl) (.tmp rfl) (.const _ _ _) (by decide)) <| .cons (.assign (lt1 rfl) (.tmp rfl)) <| ARun.nil _ _ _) ?_
      refine AWP.vc (s' := ⟨[(0, .sc (.int .u64 t0_19)), (3, .sc (.string (mkS ([48, 49, 50, 51, 52, 53, 54, 55, 56, 57, 97, 98, 99, 100, 101, 102] : List UInt8)))), (4, .own 1 1 0 l1_18.length), (5, .sc (.int .i64 x_14.2.1))], [(1, ⟨5, true, l1_18.flatMap enc8⟩)]⟩) (by subst ht0_19; exact VC.sub (.c rfl <| .c rfl <| .c rfl <| .c rfl <| .n _) (.c rfl <| .n _)) ?_
      obtain ⟨t5_20, ht5_20, h⟩ := letS h
      refine AWP.region (.cons (.move (lt1 rfl) (.tmp rfl)) <| .cons (.sub (lt1 rfl) (.tmp rfl) (.const _ _ _)) <| .cons (.assign (lt1 rfl) (.tmp rfl)) <| ARun.nil _ _ _) ?_
      exact endJ (t0_19, t5_20, l1_18) h (by subst ht5_20; exact VC.sub (.c rfl <| .c rfl <| .c rfl <| .c rfl <| .n _) (.c rfl <| .n _))
    · have h := iteF hc h
      refine AWP.exit ?_
      exact endJ x_14.2.2 h (VC.sub (.c rfl <| .n _) (.c rfl <| .n _))
def m8 (n : Nat) (a0 : Int) (a1 : (List UInt8)) : Option Bool :=
  ((m10 n).bind fun y_1 => (if (!y_1) = true then (some false) else (if (decide ((400 : Int) < (a1.length : Int))) = true then (some true) else ((m21 n a1).bind fun y_2 => ((m22 n a1).bind fun y_3 => ((m23 n a0).bind fun y_4 => ((m24 n a0).bind fun y_5 => (some (((y_4 == y_5) && (decide (y_2.2 = y_3.2))) && (decide (y_2.1 = y_3.1)))))))))))
theorem c8 (n : Nat) (a0 : Int) (a1 : (List UInt8)) {r : Bool} (h : m8 n a0 a1 = some r) : Spec Try.prog 8 [] [.sc (.int .u64 a0), .sc (.string (mkS a1))] [] (.sc (.bool r)) [] := by
  refine Spec.of (fn := Try.f8) Try.func8 Try.ntmps8 rfl rfl (le1 rfl) (fun w0 Zs Zb T0 ι0 => ?_)
  unfold m8 at h
  refine AWP.seq ?_
  refine AWP.region (.cons (.assign (lt1 rfl) (.const _ _ _)) <| ARun.nil _ _ _) ?_
  refine AWP.vc (s' := ⟨[(0, .sc (.int .u64 a0)), (1, .sc (.string (mkS a1)))], []⟩) (VC.sub (.c rfl <| .c rfl <| .n _) (.n _)) ?_
  refine AWP.seq ?_
  refine AWP.seq ?_
  obtain ⟨y_1, hy_1, h⟩ := bindS h
  refine AWP.region (.cons (.call0 (bw := false) (lt1 rfl) (c10 n hy_1) (.nil) rfl) <| .cons (.not (lt1 rfl) (.tmp rfl)) <| ARun.nil _ _ _) ?_
  refine AWP.vc (s' := ⟨[(0, .sc (.int .u64 a0)), (1, .sc (.string (mkS a1))), (10, .sc (.bool (!y_1)))], []⟩) (VC.sub (.c rfl <| .c rfl <| .c rfl <| .n _) (.n _)) ?_
  refine AWP.cond (.tmp rfl) (fun hc => ?_) (fun hc => ?_)
  · have h := iteT hc h
    refine AWP.seq ?_
    refine AWP.region (.cons (.assign (lt1 rfl) (.const _ _ _)) <| ARun.nil _ _ _) ?_
    refine AWP.ret ?_
    obtain rfl := Option.some.inj h
    exact retJ (Res.vc (s' := ⟨[(4, .sc (.bool false))], []⟩) (VC.sub (.c rfl <| .n _) (.n _)) (Res.drop rfl (Res.of rfl (.cons (.tmp rfl) (.nil)) rfl rfl)))
  · have h := iteF hc h
    refine AWP.skip ?_
    refine AWP.seq ?_
    refine AWP.seq ?_
    refine AWP.region (.cons (.move (lt1 rfl) (.tmp rfl)) <| .cons (.lenS (lt1 rfl) (.tmp rfl) Try.underlying9) <| .cons (.gtr (lt1 rfl) (.tmp rfl) (.const _ _ _)) <| ARun.nil _ _ _) ?_
    refine AWP.vc (s' := ⟨[(0, .sc (.int .u64 a0)), (1, .sc (.string (mkS a1))), (13, .sc (.bool (decide ((400 : Int) < (a1.length : Int)))))], []⟩) (VC.sub (.c rfl <| .c rfl <| .c rfl <| .n _) (.n _)) ?_
    refine AWP.cond (.tmp rfl) (fun hc => ?_) (fun hc => ?_)
    · have h := iteT hc h
      refine AWP.seq ?_
      refine AWP.region (.cons (.assign (lt1 rfl) (.const _ _ _)) <| ARun.nil _ _ _) ?_
      refine AWP.ret ?_
      obtain rfl := Option.some.inj h
      exact retJ (Res.vc (s' := ⟨[(4, .sc (.bool true))], []⟩) (VC.sub (.c rfl <| .n _) (.n _)) (Res.drop rfl (Res.of rfl (.cons (.tmp rfl) (.nil)) rfl rfl)))
    · have h := iteF hc h
      refine AWP.skip ?_
      refine AWP.seq ?_
      obtain ⟨y_2, hy_2, h⟩ := bindS h
      refine AWP.region (.cons (.move (lt1 rfl) (.tmp rfl)) <| .cons (.call0 (bw := false) (lt1 rfl) (c21 n a1 hy_2) (.cons (.tmp rfl) (.ren rfl) (.nil)) rfl) <| .cons (.move (lt1 rfl) (.tmp rfl)) <| .cons (.extract (lt1 rfl) (.tmp rfl) rfl) <| .cons (.extract (lt1 rfl) (.tmp rfl) rfl) <| .cons (.assign (lt1 rfl) (.tmp rfl)) <| .cons (.assign (lt1 rfl) (.tmp rfl)) <| ARun.nil _ _ _) ?_
      refine AWP.vc (s' := ⟨[(0, .sc (.int .u64 a0)), (1, .sc (.string (mkS a1))), (5, .sc (.int .u64 y_2.1)), (6, .sc (.int .i64 y_2.2))], []⟩) (VC.sub (.c rfl <| .c rfl <| .c rfl <| .c rfl <| .n _) (.n _)) ?_
      refine AWP.seq ?_
      obtain ⟨y_3, hy_3, h⟩ := bindS h
      refine AWP.region (.cons (.move (lt1 rfl) (.tmp rfl)) <| .cons (.call0 (bw := false) (lt1 rfl) (c22 n a1 hy_3) (.cons (.tmp rfl) (.ren rfl) (.nil)) rfl) <| .cons (.move (lt1 rfl) (.tmp rfl)) <| .cons (.extract (lt1 rfl) (.tmp rfl) rfl) <| .cons (.extract (lt1 rfl) (.tmp rfl) rfl) <| .cons (.assign (lt1 rfl) (.tmp rfl)) <| .cons (.assign (lt1 rfl) (.tmp rfl)) <| ARun.nil _ _ _) ?_
      refine AWP.vc (s' := ⟨[(0, .sc (.int .u64 a0)), (5, .sc (.int .u64 y_2.1)), (6, .sc (.int .i64 y_2.2)), (7, .sc (.int .u64 y_3.1)), (8, .sc (.int .i64 y_3.2))], []⟩) (VC.sub (.c rfl <| .c rfl <| .c rfl <| .c rfl <| .c rfl <| .n _) (.n _)) ?_
      refine AWP.seq ?_
      obtain ⟨y_4, hy_4, h⟩ := bindS h
      obtain ⟨y_5, hy_5, h⟩ := bindS h
      refine AWP.region (.cons (.move (lt1 rfl) (.tmp rfl)) <| .cons (.call0 (bw := false) (lt1 rfl) (c23 n a0 hy_4) (.cons (.tmp rfl) (.ren rfl) (.nil)) rfl) <| .cons (.move (lt1 rfl) (.tmp rfl)) <| .cons (.call0 (bw := false) (lt1 rfl) (c24 n a0 hy_5) (.cons (.tmp rfl) (.ren rfl) (.nil)) rfl) <| .cons (.eqlS (lt1 rfl) (.tmp rfl) (.tmp rfl)) <| .cons (.move (lt1 rfl) (.tmp rfl)) <| .guard (j := 5) (dj := 29) rfl (lt1 rfl) rfl (lt1 rfl) (fun hg => .move (lt1 rfl) (.tmp rfl)) <| .guard (j := 5) (dj := 29) rfl (lt1 rfl) rfl (lt1 rfl) (fun hg => .move (lt1 rfl) (.tmp rfl)) <| .guard (j := 5) (dj := 29) rfl (lt1 rfl) rfl (lt1 rfl) (fun hg => .eql (lt1 rfl) (.gd hg (.tmp rfl)) (.gd hg (.tmp rfl))) <| .cons (.pickAnd (lt1 rfl) (.tmp rfl) (.tmp rfl) (.const _ _ _)) <| .cons (.move (lt1 rfl) (.tmp rfl)) <| .guard (j := 10) (dj := 34) rfl (lt1 rfl) rfl (lt1 rfl) (fun hg => .move (lt1 rfl) (.tmp rfl)) <| .guard (j := 10) (dj := 34) rfl (lt1 rfl) rfl (lt1 rfl) (fun hg => .move (lt1 rfl) (.tmp rfl)) <| .guard (j := 10) (dj := 34) rfl (lt1 rfl) rfl (lt1 rfl) (fun hg => .eql (lt1 rfl) (.gd hg (.tmp rfl)) (.gd hg (.tmp rfl))) <| .cons (.pickAnd (lt1 rfl) (.tmp rfl) (.tmp rfl) (.const _ _ _)) <| .cons (.assign (lt1 rfl) (.tmp rfl)) <| ARun.nil _ _ _) ?_
      refine AWP.ret ?_
      obtain rfl := Option.some.inj h
      exact retJ (Res.vc (s' := ⟨[(4, .sc (.bool (((y_4 == y_5) && (decide (y_2.2 = y_3.2))) && (decide (y_2.1 = y_3.1)))))], []⟩) (VC.sub (.c rfl <| .n _) (.n _)) (Res.drop rfl (Res.of rfl (.cons (.tmp rfl) (.nil)) rfl rfl)))
def m9_L1 (n : Nat) (k_22 : Unit → Option Bool) (nx_16 : (Int × (List UInt8)) → Option Bool) (x_15 : (Int × (List UInt8))) : Option Bool :=
  (if (decide (x_15.1 < (x_15.2.length : Int))) = true then ((getIdx x_15.2 x_15.1).bind fun y_17 => ((getIdx x_15.2 x_15.1).bind fun y_18 => ((setIdx x_15.2 x_15.1 (b8 (IntKind.wrap .u8 ((y_17.toNat : Int) + (1 : Int))))).bind fun l1_19 => (letM ((IntKind.wrap .i64 (x_15.1 + (1 : Int)))) fun t10_20 => (nx_16 (t10_20, l1_19)))))) else (k_22 ()))
def m9 (n : Nat) (a0 : (List UInt8)) (a1 : Int) (a2 : (List UInt8)) : Option Bool :=
  ((m10 n).bind fun y_1 => (if (!y_1) = true then (some false) else ((m11 n a0).bind fun y_2 => (if ((!y_2) || (decide ((400 : Int) < (a2.length : Int)))) = true then (some true) else ((m19o n a0).bind fun y_3 => ((m16 n y_3).bind fun y_4 => (jn (fun p_21 : Unit => ((gdO (!(!decide (y_4.2 = (0 : Int)))) (m18 n y_4.1 a0) default).bind fun y_23 => (if ((!decide (y_4.2 = (0 : Int))) || (!y_23)) = true then (some false) else ((m16 n a0).bind fun y_24 => ((gdO (decide (y_24.2 = (0 : Int))) (m19 n y_24.1) default).bind fun y_25 => ((gdO (decide (y_24.2 = (0 : Int))) (m18 n y_25 a0) default).bind fun y_26 => (if ((decide (y_24.2 = (0 : Int))) && (!y_26)) = true then (some false) else ((m23 n a1).bind fun y_27 => ((m21 n y_27).bind fun y_28 => ((m21 n a2).bind fun y_29 => ((gdO (((decide (y_28.2 = (0 : Int))) && (decide (y_28.1 = a1))) && (!(!decide (y_29.2 = (0 : Int))))) (m23 n y_29.1) default).bind fun y_30 => (some (((decide (y_28.2 = (0 : Int))) && (decide (y_28.1 = a1))) && ((!decide (y_29.2 = (0 : Int))) || (y_30 == a2))))))))))))))) fun k_22 => (loopM (m9_L1 n k_22) n ((0 : Int), y_3)))))))))
theorem c9 {β1 : Bool} (n : Nat) (a0 : (List UInt8)) (a1 : Int) (a2 : (List UInt8)) {r : Bool} (h : m9 n a0 a1 a2 = some r) : Spec Try.prog 9 [] [.rd β1 a0.length (a0.flatMap enc8), .sc (.int .u64 a1), .sc (.string (mkS a2))] [] (.sc (.bool r)) [] := by
  refine Spec.of (fn := Try.f9) Try.func9 Try.ntmps9 rfl rfl (le1 rfl) (fun w0 Zs Zb T0 ι0 => ?_)
  unfold m9 at h
  refine AWP.seq ?_
  refine AWP.region (.cons (.assign (lt1 rfl) (.const _ _ _)) <| ARun.nil _ _ _) ?_
  refine AWP.vc (s' := ⟨[(0, .rd β1 a0.length (a0.flatMap enc8)), (1, .sc (.int .u64 a1)), (2, .sc (.string (mkS a2)))], []⟩) (VC.sub (.c rfl <| .c rfl <| .c rfl <| .n _) (.n _)) ?_
  refine AWP.seq ?_
  refine AWP.seq ?_
  obtain ⟨y_1, hy_1, h⟩ := bindS h
  refine AWP.region (.cons (.call0 (bw := false) (lt1 rfl) (c10 n hy_1) (.nil) rfl) <| .cons (.not (lt1 rfl) (.tmp rfl)) <| ARun.nil _ _ _) ?_
  refine AWP.vc (s' := ⟨[(0, .rd β1 a0.length (a0.flatMap enc8)), (1, .sc (.int .u64 a1)), (2, .sc (.string (mkS a2))), (18, .sc (.bool (!y_1)))], []⟩) (VC.sub (.c rfl <| .c rfl <| .c rfl <| .c rfl <| .n _) (.n _)) ?_
  refine AWP.cond (.tmp rfl) (fun hc => ?_) (fun hc => ?_)
  · have h := iteT hc h
    refine AWP.seq ?_
    refine AWP.region (.cons (.assign (lt1 rfl) (.const _ _ _)) <| ARun.nil _ _ _) ?_
    refine AWP.ret ?_
    obtain rfl := Option.some.inj h
    exact retJ (Res.vc (s' := ⟨[(6, .sc (.bool false))], []⟩) (VC.sub (.c rfl <| .n _) (.n _)) (Res.drop rfl (Res.of rfl (.cons (.tmp rfl) (.nil)) rfl rfl)))
  · have h := iteF hc h
    refine AWP.skip ?_
    refine AWP.seq ?_
    refine AWP.seq ?_
    obtain ⟨y_2, hy_2, h⟩ := bindS h
    refine AWP.region (.cons (.move (lt1 rfl) (.tmp rfl)) <| .cons (.call0 (bw := false) (lt1 rfl) (c11 (β1 := β1) n a0 hy_2) (.cons (.tmp rfl) (.ren rfl) (.nil)) rfl) <| .cons (.not (lt1 rfl) (.tmp rfl)) <| .cons (.move (lt1 rfl) (.tmp rfl)) <| .guard (j := 3) (dj := 22) rfl (lt1 rfl) rfl (lt1 rfl) (fun hg => .move (lt1 rfl) (.tmp rfl)) <| .guard (j := 3) (dj := 22) rfl (lt1 rfl) rfl (lt1 rfl) (fun hg => .lenS (lt1 rfl) (.gd hg (.tmp rfl)) Try.underlying9) <| .guard (j := 3) (dj := 22) rfl (lt1 rfl) rfl (lt1 rfl) (fun hg => .gtr (lt1 rfl) (.gd hg (.tmp rfl)) (.const _ _ _)) <| .cons (.pickOr (lt1 rfl) (.tmp rfl) (.const _ _ _) (.tmp rfl)) <| ARun.nil _ _ _) ?_
    refine AWP.vc (s' := ⟨[(0, .rd β1 a0.length (a0.flatMap enc8)), (1, .sc (.int .u64 a1)), (2, .sc (.string (mkS a2))), (26, .sc (.bool ((!y_2) || (decide ((400 : Int) < (a2.length : Int))))))], []⟩) (VC.sub (.c rfl <| .c rfl <| .c rfl <| .c rfl <| .n _) (.n _)) ?_
    refine AWP.cond (.tmp rfl) (fun hc => ?_) (fun hc => ?_)
    · have h := iteT hc h
      refine AWP.seq ?_
      refine AWP.region (.cons (.assign (lt1 rfl) (.const _ _ _)) <| ARun.nil _ _ _) ?_
      refine AWP.ret ?_
      obtain rfl := Option.some.inj h
      exact retJ (Res.vc (s' := ⟨[(6, .sc (.bool true))], []⟩) (VC.sub (.c rfl <| .n _) (.n _)) (Res.drop rfl (Res.of rfl (.cons (.tmp rfl) (.nil)) rfl rfl)))
    · have h := iteF hc h
      refine AWP.skip ?_
      refine AWP.seq ?_
      obtain ⟨y_3, hy_3, h⟩ := bindS h
      refine AWP.region (.cons (.move (lt1 rfl) (.tmp rfl)) <| .cons (.call (bw := false) (σ := fun _ => 1) (lt1 rfl) (c19o (β1 := β1) n a0 hy_3) (.cons (.tmp rfl) (.ren rfl) (.nil)) (CallOk.mk' .n rfl)) <| .cons (.assign (lt1 rfl) (.tmp rfl)) <| ARun.nil _ _ _) ?_
      refine AWP.vc (s' := ⟨[(0, .rd β1 a0.length (a0.flatMap enc8)), (1, .sc (.int .u64 a1)), (2, .sc (.string (mkS a2))), (7, .own 1 1 0 y_3.length)], [(1, ⟨5, true, y_3.flatMap enc8⟩)]⟩) (VC.sub (.c rfl <| .c rfl <| .c rfl <| .c rfl <| .n _) (.c rfl <| .n _)) ?_
      refine AWP.seq ?_
      obtain ⟨y_4, hy_4, h⟩ := bindS h
      refine AWP.region (.cons (.move (lt1 rfl) (.tmp rfl)) <| .cons (.call0 (bw := true) (lt1 rfl) (c16 (β1 := true) n y_3 hy_4) (.cons (.tmp rfl) (.lendRow rfl rfl enc8_len rfl) (.nil)) rfl) <| .cons (.move (lt1 rfl) (.tmp rfl)) <| .cons (.extract (lt1 rfl) (.tmp rfl) rfl) <| .cons (.extract (lt1 rfl) (.tmp rfl) rfl) <| .cons (.assign (lt1 rfl) (.tmp rfl)) <| .cons (.assign (lt1 rfl) (.tmp rfl)) <| ARun.nil _ _ _) ?_
      refine AWP.vc (s' := ⟨[(0, .rd β1 a0.length (a0.flatMap enc8)), (1, .sc (.int .u64 a1)), (2, .sc (.string (mkS a2))), (7, .own 1 1 0 y_3.length), (8, .rd false y_4.1.length (y_4.1.flatMap enc8)), (9, .sc (.int .i64 y_4.2))], [(1, ⟨5, true, y_3.flatMap enc8⟩)]⟩) (VC.sub (.c rfl <| .c rfl <| .c rfl <| .c rfl <| .c rfl <| .c rfl <| .n _) (.c rfl <| .n _)) ?_
      refine AWP.seq ?_
      refine AWP.seq ?_
      refine AWP.region (.cons (.assign (lt1 rfl) (.const _ _ _)) <| ARun.nil _ _ _) ?_
      refine AWP.vc (s' := ⟨[(0, .rd β1 a0.length (a0.flatMap enc8)), (1, .sc (.int .u64 a1)), (2, .sc (.string (mkS a2))), (7, .own 1 1 0 y_3.length), (8, .rd false y_4.1.length (y_4.1.flatMap enc8)), (9, .sc (.int .i64 y_4.2)), (10, .sc (.int .i64 (0 : Int)))], [(1, ⟨5, true, y_3.flatMap enc8⟩)]⟩) (VC.sub (.c rfl <| .c rfl <| .c rfl <| .c rfl <| .c rfl <| .c rfl <| .c rfl <| .n _) (.c rfl <| .n _)) ?_
      refine AWP.joinB' (S := fun p_21 : Unit => ⟨[(0, .rd β1 a0.length (a0.flatMap enc8)), (1, .sc (.int .u64 a1)), (2, .sc (.string (mkS a2))), (8, .rd false y_4.1.length (y_4.1.flatMap enc8)), (9, .sc (.int .i64 y_4.2))], []⟩) h (fun p_21 h => ?_) (fun k_22 h => ?_)
      · refine AWP.seq ?_
        refine AWP.seq ?_
        obtain ⟨y_23, hy_23, h⟩ := bindS h
        refine AWP.region (.cons (.move (lt1 rfl) (.tmp rfl)) <| .cons (.neq (lt1 rfl) (.tmp rfl) (.const _ _ _)) <| .cons (.move (lt1 rfl) (.tmp rfl)) <| .guard (j := 2) (dj := 48) rfl (lt1 rfl) rfl (lt1 rfl) (fun hg => .move (lt1 rfl) (.tmp rfl)) <| .guard (j := 2) (dj := 48) rfl (lt1 rfl) rfl (lt1 rfl) (fun hg => .move (lt1 rfl) (.tmp rfl)) <| .guard (j := 2) (dj := 48) rfl (lt1 rfl) rfl (lt1 rfl) (fun hg => .call0 (bw := false) (lt1 rfl) (c18 (β1 := false) (β2 := β1) n y_4.1 a0 (gdB hy_23 hg)) (.cons (.gd hg (.tmp rfl)) (.ren rfl) (.cons (.gd hg (.tmp rfl)) (.ren rfl) (.nil))) rfl) <| .guard (j := 2) (dj := 48) rfl (lt1 rfl) rfl (lt1 rfl) (fun hg => .not (lt1 rfl) (.gd hg (.tmp rfl))) <| .cons (.pickOr (lt1 rfl) (.tmp rfl) (.const _ _ _) (.tmp rfl)) <| ARun.nil _ _ _) ?_
        refine AWP.vc (s' := ⟨[(0, .rd β1 a0.length (a0.flatMap enc8)), (1, .sc (.int .u64 a1)), (2, .sc (.string (mkS a2))), (53, .sc (.bool ((!decide (y_4.2 = (0 : Int))) || (!y_23))))], []⟩) (VC.sub (.c rfl <| .c rfl <| .c rfl <| .c rfl <| .n _) (.n _)) ?_
        refine AWP.cond (.tmp rfl) (fun hc => ?_) (fun hc => ?_)
        · have h := iteT hc h
          refine AWP.seq ?_
          refine AWP.region (.cons (.assign (lt1 rfl) (.const _ _ _)) <| ARun.nil _ _ _) ?_
          refine AWP.ret ?_
          obtain rfl := Option.some.inj h
          exact retJ (Res.vc (s' := ⟨[(6, .sc (.bool false))], []⟩) (VC.sub (.c rfl <| .n _) (.n _)) (Res.drop rfl (Res.of rfl (.cons (.tmp rfl) (.nil)) rfl rfl)))
        · have h := iteF hc h
          refine AWP.skip ?_
          refine AWP.seq ?_
          refine AWP.seq ?_
          obtain ⟨y_24, hy_24, h⟩ := bindS h
          refine AWP.region (.cons (.move (lt1 rfl) (.tmp rfl)) <| .cons (.call0 (bw := false) (lt1 rfl) (c16 (β1 := β1) n a0 hy_24) (.cons (.tmp rfl) (.ren rfl) (.nil)) rfl) <| .cons (.move (lt1 rfl) (.tmp rfl)) <| .cons (.extract (lt1 rfl) (.tmp rfl) rfl) <| .cons (.extract (lt1 rfl) (.tmp rfl) rfl) <| .cons (.assign (lt1 rfl) (.tmp rfl)) <| .cons (.assign (lt1 rfl) (.tmp rfl)) <| ARun.nil _ _ _) ?_
          refine AWP.vc (s' := ⟨[(0, .rd β1 a0.length (a0.flatMap enc8)), (1, .sc (.int .u64 a1)), (2, .sc (.string (mkS a2))), (11, .rd false y_24.1.length (y_24.1.flatMap enc8)), (12, .sc (.int .i64 y_24.2))], []⟩) (VC.sub (.c rfl <| .c rfl <| .c rfl <| .c rfl <| .c rfl <| .n _) (.n _)) ?_
          refine AWP.seq ?_
          obtain ⟨y_25, hy_25, h⟩ := bindS h
          obtain ⟨y_26, hy_26, h⟩ := bindS h
          refine AWP.region (.cons (.move (lt1 rfl) (.tmp rfl)) <| .cons (.eql (lt1 rfl) (.tmp rfl) (.const _ _ _)) <| .cons (.move (lt1 rfl) (.tmp rfl)) <| .guard (j := 2) (dj := 61) rfl (lt1 rfl) rfl (lt1 rfl) (fun hg => .move (lt1 rfl) (.tmp rfl)) <| .guard (j := 2) (dj := 61) rfl (lt1 rfl) rfl (lt1 rfl) (fun hg => .call0 (bw := false) (lt1 rfl) (c19 (β1 := false) n y_24.1 (gdB hy_25 hg)) (.cons (.gd hg (.tmp rfl)) (.ren rfl) (.nil)) rfl) <| .guard (j := 2) (dj := 61) rfl (lt1 rfl) rfl (lt1 rfl) (fun hg => .move (lt1 rfl) (.tmp rfl)) <| .guard (j := 2) (dj := 61) rfl (lt1 rfl) rfl (lt1 rfl) (fun hg => .call0 (bw := false) (lt1 rfl) (c18 (β1 := false) (β2 := β1) n y_25 a0 (gdB hy_26 hg)) (.cons (.gd hg (.tmp rfl)) (.ren rfl) (.cons (.gd hg (.tmp rfl)) (.ren rfl) (.nil))) rfl) <| .guard (j := 2) (dj := 61) rfl (lt1 rfl) rfl (lt1 rfl) (fun hg => .not (lt1 rfl) (.gd hg (.tmp rfl))) <| .cons (.pickAnd (lt1 rfl) (.tmp rfl) (.tmp rfl) (.const _ _ _)) <| ARun.nil _ _ _) ?_
          refine AWP.vc (s' := ⟨[(1, .sc (.int .u64 a1)), (2, .sc (.string (mkS a2))), (67, .sc (.bool ((decide (y_24.2 = (0 : Int))) && (!y_26))))], []⟩) (VC.sub (.c rfl <| .c rfl <| .c rfl <| .n _) (.n _)) ?_
          refine AWP.cond (.tmp rfl) (fun hc => ?_) (fun hc => ?_)
          · have h := iteT hc h
            refine AWP.seq ?_
            refine AWP.region (.cons (.assign (lt1 rfl) (.const _ _ _)) <| ARun.nil _ _ _) ?_
            refine AWP.ret ?_
            obtain rfl := Option.some.inj h
            exact retJ (Res.vc (s' := ⟨[(6, .sc (.bool false))], []⟩) (VC.sub (.c rfl <| .n _) (.n _)) (Res.drop rfl (Res.of rfl (.cons (.tmp rfl) (.nil)) rfl rfl)))
          · have h := iteF hc h
            refine AWP.skip ?_
            refine AWP.seq ?_
            obtain ⟨y_27, hy_27, h⟩ := bindS h
            obtain ⟨y_28, hy_28, h⟩ := bindS h
            refine AWP.region (.cons (.move (lt1 rfl) (.tmp rfl)) <| .cons (.call0 (bw := false) (lt1 rfl) (c23 n a1 hy_27) (.cons (.tmp rfl) (.ren rfl) (.nil)) rfl) <| .cons (.call0 (bw := false) (lt1 rfl) (c21 n y_27 hy_28) (.cons (.tmp rfl) (.ren rfl) (.nil)) rfl) <| .cons (.move (lt1 rfl) (.tmp rfl)) <| .cons (.extract (lt1 rfl) (.tmp rfl) rfl) <| .cons (.extract (lt1 rfl) (.tmp rfl) rfl) <| .cons (.assign (lt1 rfl) (.tmp rfl)) <| .cons (.assign (lt1 rfl) (.tmp rfl)) <| ARun.nil _ _ _) ?_
            refine AWP.vc (s' := ⟨[(1, .sc (.int .u64 a1)), (2, .sc (.string (mkS a2))), (13, .sc (.int .u64 y_28.1)), (14, .sc (.int .i64 y_28.2))], []⟩) (VC.sub (.c rfl <| .c rfl <| .c rfl <| .c rfl <| .n _) (.n _)) ?_
            refine AWP.seq ?_
            obtain ⟨y_29, hy_29, h⟩ := bindS h
            refine AWP.region (.cons (.move (lt1 rfl) (.tmp rfl)) <| .cons (.call0 (bw := false) (lt1 rfl) (c21 n a2 hy_29) (.cons (.tmp rfl) (.ren rfl) (.nil)) rfl) <| .cons (.move (lt1 rfl) (.tmp rfl)) <| .cons (.extract (lt1 rfl) (.tmp rfl) rfl) <| .cons (.extract (lt1 rfl) (.tmp rfl) rfl) <| .cons (.assign (lt1 rfl) (.tmp rfl)) <| .cons (.assign (lt1 rfl) (.tmp rfl)) <| ARun.nil _ _ _) ?_
            refine AWP.vc (s' := ⟨[(1, .sc (.int .u64 a1)), (2, .sc (.string (mkS a2))), (13, .sc (.int .u64 y_28.1)), (14, .sc (.int .i64 y_28.2)), (15, .sc (.int .u64 y_29.1)), (16, .sc (.int .i64 y_29.2))], []⟩) (VC.sub (.c rfl <| .c rfl <| .c rfl <| .c rfl <| .c rfl <| .c rfl <| .n _) (.n _)) ?_
            refine AWP.seq ?_
            obtain ⟨y_30, hy_30, h⟩ := bindS h
            refine AWP.region (.cons (.move (lt1 rfl) (.tmp rfl)) <| .cons (.eql (lt1 rfl) (.tmp rfl) (.const _ _ _)) <| .cons (.move (lt1 rfl) (.tmp rfl)) <| .guard (j := 2) (dj := 81) rfl (lt1 rfl) rfl (lt1 rfl) (fun hg => .move (lt1 rfl) (.tmp rfl)) <| .guard (j := 2) (dj := 81) rfl (lt1 rfl) rfl (lt1 rfl) (fun hg => .move (lt1 rfl) (.tmp rfl)) <| .guard (j := 2) (dj := 81) rfl (lt1 rfl) rfl (lt1 rfl) (fun hg => .eql (lt1 rfl) (.gd hg (.tmp rfl)) (.gd hg (.tmp rfl))) <| .cons (.pickAnd (lt1 rfl) (.tmp rfl) (.tmp rfl) (.const _ _ _)) <| .cons (.move (lt1 rfl) (.tmp rfl)) <| .guard (j := 7) (dj := 86) rfl (lt1 rfl) rfl (lt1 rfl) (fun hg => .move (lt1 rfl) (.tmp rfl)) <| .guard (j := 7) (dj := 86) rfl (lt1 rfl) rfl (lt1 rfl) (fun hg => .neq (lt1 rfl) (.gd hg (.tmp rfl)) (.const _ _ _)) <| .guard (j := 7) (dj := 86) rfl (lt1 rfl) rfl (lt1 rfl) (fun hg => .move (lt1 rfl) (.gd hg (.tmp rfl))) <| .guard2 (j := 10) (dj := 89) rfl (lt1 rfl) rfl (lt1 rfl) (fun hg => .move (lt1 rfl) (.tmp rfl)) <| .guard2 (j := 10) (dj := 89) rfl (lt1 rfl) rfl (lt1 rfl) (fun hg => .call0 (bw := false) (lt1 rfl) (c23 n y_29.1 (gdB hy_30 hg)) (.cons (.gd hg (.tmp rfl)) (.ren rfl) (.nil)) rfl) <| .guard2 (j := 10) (dj := 89) rfl (lt1 rfl) rfl (lt1 rfl) (fun hg => .move (lt1 rfl) (.tmp rfl)) <| .guard2 (j := 10) (dj := 89) rfl (lt1 rfl) rfl (lt1 rfl) (fun hg => .eqlS (lt1 rfl) (.gd hg (.tmp rfl)) (.gd hg (.tmp rfl))) <| .guard (j := 7) (dj := 86) rfl (lt1 rfl) rfl (lt1 rfl) (fun hg => .pickOr (lt1 rfl) (.gd hg (.tmp rfl)) (.const _ _ _) (.gdAnd hg (.tmp rfl))) <| .cons (.pickAnd (lt1 rfl) (.tmp rfl) (.tmp rfl) (.const _ _ _)) <| .cons (.assign (lt1 rfl) (.tmp rfl)) <| ARun.nil _ _ _) ?_
            refine AWP.ret ?_
            obtain rfl := Option.some.inj h
            exact retJ (Res.vc (s' := ⟨[(6, .sc (.bool (((decide (y_28.2 = (0 : Int))) && (decide (y_28.1 = a1))) && ((!decide (y_29.2 = (0 : Int))) || (y_30 == a2)))))], []⟩) (VC.sub (.c rfl <| .n _) (.n _)) (Res.drop rfl (Res.of rfl (.cons (.tmp rfl) (.nil)) rfl rfl)))
      · refine AWP.vc (s' := ⟨[(0, .rd β1 a0.length (a0.flatMap enc8)), (1, .sc (.int .u64 a1)), (2, .sc (.string (mkS a2))), (7, .own 1 1 0 y_3.length), (8, .rd false y_4.1.length (y_4.1.flatMap enc8)), (9, .sc (.int .i64 y_4.2)), (10, .sc (.int .i64 (0 : Int)))], [(1, ⟨5, true, y_3.flatMap enc8⟩)]⟩) (VC.sub (.c rfl <| .c rfl <| .c rfl <| .c rfl <| .c rfl <| .c rfl <| .c rfl <| .n _) (.c rfl <| .n _)) ?_
        refine AWP.loopM (S := fun x_15 : Int × (List UInt8) => ⟨[(0, .rd β1 a0.length (a0.flatMap enc8)), (1, .sc (.int .u64 a1)), (2, .sc (.string (mkS a2))), (7, .own 1 1 0 x_15.2.length), (8, .rd false y_4.1.length (y_4.1.flatMap enc8)), (9, .sc (.int .i64 y_4.2)), (10, .sc (.int .i64 x_15.1))], [(1, ⟨5, true, x_15.2.flatMap enc8⟩)]⟩) (x := ((0 : Int), y_3)) (fun nx_16 x_15 h => ?_) h
        unfold m9_L1 at h
        refine AWP.seq ?_
        refine AWP.seq ?_
        refine AWP.region (.cons (.move (lt1 rfl) (.tmp rfl)) <| .cons (.move (lt1 rfl) (.tmp rfl)) <| .cons (.lenOwn (lt1 rfl) (.tmp rfl) Try.underlying22) <| .cons (.lss (lt1 rfl) (.tmp rfl) (.tmp rfl)) <| ARun.nil _ _ _) ?_
        refine AWP.vc (s' := ⟨[(0, .rd β1 a0.length (a0.flatMap enc8)), (1, .sc (.int .u64 a1)), (2, .sc (.string (mkS a2))), (7, .own 1 1 0 x_15.2.length), (8, .rd false y_4.1.length (y_4.1.flatMap enc8)), (9, .sc (.int .i64 y_4.2)), (10, .sc (.int .i64 x_15.1)), (37, .sc (.bool (decide (x_15.1 < (x_15.2.length : Int)))))], [(1, ⟨5, true, x_15.2.flatMap enc8⟩)]⟩) (VC.sub (.c rfl <| .c rfl <| .c rfl <| .c rfl <| .c rfl <| .c rfl <| .c rfl <| .c rfl <| .n _) (.c rfl <| .n _)) ?_
        refine AWP.cond (.tmp rfl) (fun hc => ?_) (fun hc => ?_)
        · have h := iteT hc h
          refine AWP.skip ?_
          refine AWP.seq ?_
          refine AWP.block ?_
          obtain ⟨y_17, hy_17, h⟩ := bindS h
          obtain ⟨y_18, hy_18, h⟩ := bindS h
          obtain ⟨l1_19, hl1_19, h⟩ := bindS h
          refine AWP.region (.cons (.move (lt1 rfl) (.tmp rfl)) <| .cons (.move (lt1 rfl) (.tmp rfl)) <| .cons (.idxOwn (lt1 rfl) (.tmp rfl) (.tmp rfl) Try.underlying22 sz5 rfl hy_17) <| .cons (.loadP (lt1 rfl) (.tmp rfl) one5 rfl (cell_at1 enc8_len hy_17) rfl) <| .cons (.add (lt1 rfl) (.tmp rfl) (.const _ _ _)) <| .cons (.idxOwn (lt1 rfl) (.tmp rfl) (.tmp rfl) Try.underlying22 sz5 rfl hy_18) <| .cons (.storeP (.tmp rfl) (.tmp rfl) sz5 rfl (lt_at1 enc8_len hy_18) rfl (fun _ => rfl) (set_at1 enc8_len hl1_19 (enc8_wrap _))) <| ARun.nil _ _ _) ?_
          refine AWP.vc (s' := ⟨[(0, .rd β1 a0.length (a0.flatMap enc8)), (1, .sc (.int .u64 a1)), (2, .sc (.string (mkS a2))), (7, .own 1 1 0 l1_19.length), (8, .rd false y_4.1.length (y_4.1.flatMap enc8)), (9, .sc (.int .i64 y_4.2)), (10, .sc (.int .i64 x_15.1))], [(1, ⟨5, true, l1_19.flatMap enc8⟩)]⟩) (VC.sub (.c rfl <| .c rfl <| .c rfl <| .c (lenC (Eq.symm (setLen hl1_19)) rfl) <| .c rfl <| .c rfl <| .c rfl <| .n _) (.c rfl <| .n _)) ?_
          obtain ⟨t10_20, ht10_20, h⟩ := letS h
          refine AWP.region (.cons (.move (lt1 rfl) (.tmp rfl)) <| .cons (.add (lt1 rfl) (.tmp rfl) (.const _ _ _)) <| .cons (.assign (lt1 rfl) (.tmp rfl)) <| ARun.nil _ _ _) ?_
          exact endJ (t10_20, l1_19) h (by subst ht10_20; exact VC.sub (.c rfl <| .c rfl <| .c rfl <| .c rfl <| .c rfl <| .c rfl <| .c rfl <| .n _) (.c rfl <| .n _))
        · have h := iteF hc h
          refine AWP.exit ?_
          exact endJ () h (VC.sub (.c rfl <| .c rfl <| .c rfl <| .c rfl <| .c rfl <| .n _) (.n _))
end Go.AB
