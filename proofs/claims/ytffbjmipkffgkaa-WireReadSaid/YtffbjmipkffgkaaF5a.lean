import Derived.Test.YtffbjmipkffgkaaProg
import Derived.Test.YtffbjmipkffgkaaD
import Derived.KernelRfl
set_option linter.unusedVariables false
namespace Go.AB
open Go Go.Proofs
theorem c42 {β1 : Bool} (n : Nat) (a0 : (List UInt8)) {r : (List UInt8)} (h : m42 n a0 = some r) : Spec Try.prog 42 [] [.rd β1 a0.length (a0.flatMap enc8)] [] (.rd false r.length (r.flatMap enc8)) [] := by
  refine Spec.of (fn := Try.f42) Try.func42 Try.ntmps42 rfl rfl (le1 rfl) (fun w0 Zs Zb T0 ι0 => ?_)
  unfold m42 at h
  refine AWP.seq ?_
  refine AWP.region (.cons (.assign (lt1 rfl) (.const _ _ _)) <| ARun.nil _ _ _) ?_
  refine AWP.vc (s' := ⟨[(0, .rd β1 a0.length (a0.flatMap enc8))], []⟩) (VC.sub (.c rfl <| .n _) (.n _)) ?_
  refine AWP.seq ?_
  refine AWP.seq ?_
  refine AWP.regionE (S := fun q_1 => ⟨[(0, .rd β1 a0.length (a0.flatMap enc8)), (4, .sc (.bool (decide (a0.length = 0 ∧ q_1 = 0))))], []⟩) (.cons (.move (lt1 rfl) (.tmp rfl)) <| .consE (AStepE.eqNil0 (lt1 rfl) (.tmp rfl) Try.underlying33) <| fun q_1 => ARunE.nilV q_1 (VC.sub (.c rfl <| .c rfl <| .n _) (.n _))) (fun q_1 => ?_)
  refine AWP.cond (.tmp rfl) (fun hc => ?_) (fun hc => ?_)
  · have h := cloneNil hc h
    refine AWP.seq ?_
    refine AWP.region (.cons (.assign (lt1 rfl) (.const _ _ _)) <| ARun.nil _ _ _) ?_
    refine AWP.ret ?_
    obtain rfl := Option.some.inj h
    refine retJ (Res.vc (s' := ⟨[(2, .rd false ([] : List UInt8).length (([] : List UInt8).flatMap enc8))], []⟩) (VC.trans (VC.nilRd (d := 2) false rfl) (VC.sub (.c rfl <| .n _) (.n _))) ?_)
    refine Res.drop (H := []) rfl ?_
    exact Res.of rfl (.cons (.tmp rfl) (.nil)) rfl rfl
  · refine AWP.skip ?_
    refine AWP.seq ?_
    obtain ⟨l1_2, hl1_2, h⟩ := bindS h
    refine AWP.region (.cons (.buildSlice (t := 1) (out := ([] : List UInt8).flatMap enc8) (lt1 rfl) (nm rfl) (.nil) Try.underlying33 zero5 el5 (by decide) (by decide) rfl (still_all enc8_still _)) <| .cons (.move (lt1 rfl) (.tmp rfl)) <| .cons (.app (enc := enc8) (lt1 rfl) (nm rfl) (.tmp rfl) (Src.rd (.tmp rfl) (flatMap_length enc8_len _) (one_all enc8_one _) (.inr (scal_all enc8_scal _))) Try.underlying33 ⟨_, Try.underlying33, by intro k hk; cases hk⟩ el5 rfl enc8_len rfl rfl (by decide) hl1_2) <| .cons (.assign (lt1 rfl) (.tmp rfl)) <| ARun.nil _ _ _) ?_
    refine AWP.ret ?_
    obtain rfl := Option.some.inj h
    refine retJ (Res.vc (s' := ⟨[(2, .rd false l1_2.length (l1_2.flatMap enc8))], []⟩) (VC.trans (VC.frz (d := 2) (t := 1) rfl rfl enc8_len) (VC.sub (.c rfl <| .n _) (.n _))) ?_)
    refine Res.drop (H := []) rfl ?_
    exact Res.of rfl (.cons (.tmp rfl) (.nil)) rfl rfl
theorem c16 {β1 : Bool} (n : Nat) (a0 : (List UInt8)) {r : R81} (h : m16 n a0 = some r) : Spec Try.prog 16 [] [.rd β1 a0.length (a0.flatMap enc8)] [] (.ptr 1 0) [(1, ⟨82, false, [.rd false r.b.length (r.b.flatMap enc8), .sc (.int .i64 r.at_), .sc (.bool r.failed)]⟩)] := by
  refine Spec.of (fn := Try.f16) Try.func16 Try.ntmps16 rfl rfl (le1 rfl) (fun w0 Zs Zb T0 ι0 => ?_)
  unfold m16 at h
  refine AWP.seq ?_
  refine AWP.region (.cons (.assign (lt1 rfl) (.const _ _ _)) <| ARun.nil _ _ _) ?_
  refine AWP.vc (s' := ⟨[(0, .rd β1 a0.length (a0.flatMap enc8))], []⟩) (VC.sub (.c rfl <| .n _) (.n _)) ?_
  refine AWP.seq ?_
  obtain ⟨y_1, hy_1, h⟩ := bindS h
  refine AWP.region (.cons (.move (lt1 rfl) (.tmp rfl)) <| .cons (.call0 (bw := false) (lt1 rfl) (c42 (β1 := β1) n a0 hy_1) (.cons (.tmp rfl) (.ren rfl) (.nil)) rfl) <| .cons (.buildO (offs := [(0, 1), (1, 1), (2, 1)]) (lt1 rfl) (.cons (.tmp rfl) (by first | exact ⟨rfl, rfl⟩ | rfl) (.nil)) zero82 offs82 rfl) <| .cons (.box (t := 1) (n := 3) (lt1 rfl) (nm rfl) (.tmp rfl) (by first | exact ⟨rfl, rfl⟩ | rfl) rfl) <| .cons (.assign (lt1 rfl) (.tmp rfl)) <| ARun.nil _ _ _) ?_
  refine AWP.ret ?_
  obtain rfl := Option.some.inj h
  refine retJ (Res.vc (s' := ⟨[(2, .ptr 1 0)], [(1, ⟨82, false, [.rd false y_1.length (y_1.flatMap enc8), .sc (.int .i64 (0 : Int)), .sc (.bool false)]⟩)]⟩) (VC.sub (.c rfl <| .n _) (.c rfl <| .n _)) ?_)
  refine Res.sub (H := [(1, ⟨82, false, [.rd false y_1.length (y_1.flatMap enc8), .sc (.int .i64 (0 : Int)), .sc (.bool false)]⟩)]) (.c rfl <| .n _) ?_
  exact Res.of rfl (.cons (.tmp rfl) (.nil)) rfl rfl
theorem c12o (n : Nat) (a0_b : (List UInt8)) (a1 : Int) {r : (List UInt8)} (h : m12o n a0_b a1 = some r) : Spec Try.prog 12 [] [.own 1 1 0 a0_b.length, .sc (.int .i64 a1)] [(1, ⟨5, true, a0_b.flatMap enc8⟩)] (.own 1 1 0 r.length) [(1, ⟨5, true, r.flatMap enc8⟩)] := by
  refine Spec.of (fn := Try.f12) Try.func12 Try.ntmps12 rfl rfl (le1 rfl) (fun w0 Zs Zb T0 ι0 => ?_)
  unfold m12o at h
  refine AWP.seq ?_
  refine AWP.region (.cons (.assign (lt1 rfl) (.const _ _ _)) <| ARun.nil _ _ _) ?_
  refine AWP.vc (s' := ⟨[(0, .own 1 1 0 a0_b.length), (1, .sc (.int .i64 a1))], [(1, ⟨5, true, a0_b.flatMap enc8⟩)]⟩) (VC.sub (.c rfl <| .c rfl <| .n _) (.c rfl <| .n _)) ?_
  refine AWP.seq ?_
  refine AWP.region (.cons (.assign (lt1 rfl) (.const _ _ _)) <| ARun.nil _ _ _) ?_
  refine AWP.vc (s' := ⟨[(0, .own 1 1 0 a0_b.length), (1, .sc (.int .i64 a1)), (5, .sc (.int .i64 (0 : Int)))], [(1, ⟨5, true, a0_b.flatMap enc8⟩)]⟩) (VC.sub (.c rfl <| .c rfl <| .c rfl <| .n _) (.c rfl <| .n _)) ?_
  refine AWP.seq ?_
  refine AWP.seq ?_
  refine AWP.region (.cons (.move (lt1 rfl) (.tmp rfl)) <| .cons (.neq (lt1 rfl) (.tmp rfl) (.const _ _ _)) <| ARun.nil _ _ _) ?_
  refine AWP.vc (s' := ⟨[(0, .own 1 1 0 a0_b.length), (1, .sc (.int .i64 a1)), (5, .sc (.int .i64 (0 : Int))), (8, .sc (.bool (!decide (a1 = (0 : Int)))))], [(1, ⟨5, true, a0_b.flatMap enc8⟩)]⟩) (VC.sub (.c rfl <| .c rfl <| .c rfl <| .c rfl <| .n _) (.c rfl <| .n _)) ?_
  refine AWP.join' (S := fun p_1 : Int => ⟨[(0, .own 1 1 0 a0_b.length), (1, .sc (.int .i64 a1)), (5, .sc (.int .i64 p_1))], [(1, ⟨5, true, a0_b.flatMap enc8⟩)]⟩) h (fun p_1 h => ?_) (fun k_2 h => ?_)
  · refine AWP.seq ?_
    refine AWP.joinB' (S := fun p_16 : Int => ⟨[(0, .own 1 1 0 a0_b.length), (1, .sc (.int .i64 a1)), (5, .sc (.int .i64 p_16))], [(1, ⟨5, true, a0_b.flatMap enc8⟩)]⟩) h (fun p_16 h => ?_) (fun k_17 h => ?_)
    · refine AWP.seq ?_
      obtain ⟨l1_18, hl1_18, h⟩ := bindS h
      refine AWP.region (.cons (.move (lt1 rfl) (.tmp rfl)) <| .cons (.move (lt1 rfl) (.tmp rfl)) <| .cons (.conv (lt1 rfl) (.tmp rfl) Try.underlying3 Try.underlying5) <| .cons (.buildSlice (t := 2) (out := ([(b8 (IntKind.wrap .u8 p_16))] : List UInt8).flatMap enc8) (lt1 rfl) (nm rfl) (.cons (.tmp rfl) (by first | exact ⟨rfl, rfl⟩ | rfl) (.nil)) Try.underlying33 zero5 el5 (by decide) (by decide) (fill8 rfl (.c (row8w _) .n)) (still_all enc8_still _)) <| .cons (.app (enc := enc8) (lt1 rfl) (nm rfl) (.tmp rfl) (Src.own (.tmp rfl) rfl (lendAll enc8_len _) (flatMap_length enc8_len _) (one_all enc8_one _) (.inl rfl)) Try.underlying33 ⟨_, Try.underlying33, by intro k hk; cases hk⟩ el5 rfl enc8_len rfl rfl (by decide) hl1_18) <| .cons (.assign (lt1 rfl) (.tmp rfl)) <| ARun.nil _ _ _) ?_
      refine AWP.vc (s' := ⟨[(0, .own 1 1 0 l1_18.length), (1, .sc (.int .i64 a1)), (5, .sc (.int .i64 p_16))], [(1, ⟨5, true, l1_18.flatMap enc8⟩)]⟩) (VC.sub (.c rfl <| .c rfl <| .c rfl <| .n _) (.c rfl <| .n _)) ?_
      refine AWP.seq ?_
      refine AWP.seq ?_
      obtain ⟨t6_19, ht6_19, h⟩ := letS h
      refine AWP.region (.cons (.move (lt1 rfl) (.tmp rfl)) <| .cons (.sub (lt1 rfl) (.tmp rfl) (.const _ _ _)) <| .cons (.assign (lt1 rfl) (.tmp rfl)) <| ARun.nil _ _ _) ?_
      refine AWP.vc (s' := ⟨[(0, .own 1 1 0 l1_18.length), (1, .sc (.int .i64 a1)), (6, .sc (.int .i64 t6_19))], [(1, ⟨5, true, l1_18.flatMap enc8⟩)]⟩) (by subst ht6_19; exact VC.sub (.c rfl <| .c rfl <| .c rfl <| .n _) (.c rfl <| .n _)) ?_
      refine AWP.joinB' (S := fun p_33 : (List UInt8) => ⟨[(0, .own 1 1 0 p_33.length)], [(1, ⟨5, true, p_33.flatMap enc8⟩)]⟩) h (fun p_33 h => ?_) (fun k_34 h => ?_)
      · refine AWP.seq ?_
        refine AWP.region (.cons (.move (lt1 rfl) (.tmp rfl)) <| .cons (.assign (lt1 rfl) (.tmp rfl)) <| ARun.nil _ _ _) ?_
        refine AWP.ret ?_
        obtain rfl := Option.some.inj h
        refine retJ (Res.vc (s' := ⟨[(4, .own 1 1 0 p_33.length)], [(1, ⟨5, true, p_33.flatMap enc8⟩)]⟩) (VC.sub (.c rfl <| .n _) (.c rfl <| .n _)) ?_)
        refine Res.sub (H := [(1, ⟨5, true, p_33.flatMap enc8⟩)]) (.c rfl <| .n _) ?_
        exact Res.of rfl (.cons (.tmp rfl) (.nil)) rfl rfl
      · refine AWP.vc (s' := ⟨[(0, .own 1 1 0 l1_18.length), (1, .sc (.int .i64 a1)), (6, .sc (.int .i64 t6_19))], [(1, ⟨5, true, l1_18.flatMap enc8⟩)]⟩) (VC.sub (.c rfl <| .c rfl <| .c rfl <| .n _) (.c rfl <| .n _)) ?_
        refine AWP.loopM (S := fun x_28 : Int × (List UInt8) => ⟨[(0, .own 1 1 0 x_28.2.length), (1, .sc (.int .i64 a1)), (6, .sc (.int .i64 x_28.1))], [(1, ⟨5, true, x_28.2.flatMap enc8⟩)]⟩) (x := (t6_19, l1_18)) (fun nx_29 x_28 h => ?_) h
        unfold m12o_L2 at h
        refine AWP.seq ?_
        refine AWP.seq ?_
        refine AWP.region (.cons (.move (lt1 rfl) (.tmp rfl)) <| .cons (.geq (lt1 rfl) (.tmp rfl) (.const _ _ _)) <| ARun.nil _ _ _) ?_
        refine AWP.vc (s' := ⟨[(0, .own 1 1 0 x_28.2.length), (1, .sc (.int .i64 a1)), (6, .sc (.int .i64 x_28.1)), (35, .sc (.bool (decide ((0 : Int) ≤ x_28.1))))], [(1, ⟨5, true, x_28.2.flatMap enc8⟩)]⟩) (VC.sub (.c rfl <| .c rfl <| .c rfl <| .c rfl <| .n _) (.c rfl <| .n _)) ?_
        refine AWP.cond (.tmp rfl) (fun hc => ?_) (fun hc => ?_)
        · have h := iteT hc h
          refine AWP.skip ?_
          refine AWP.seq ?_
          refine AWP.block ?_
          obtain ⟨ha_30, h⟩ := asrtS h
          obtain ⟨l1_31, hl1_31, h⟩ := bindS h
          refine AWP.region (.cons (.move (lt1 rfl) (.tmp rfl)) <| .cons (.move (lt1 rfl) (.tmp rfl)) <| .cons (.move (lt1 rfl) (.tmp rfl)) <| .cons (.mul (lt1 rfl) (.const _ _ _) (.tmp rfl)) <| .cons (.shr (lt1 rfl) (.tmp rfl) (.tmp rfl) ha_30) <| .cons (.conv (lt1 rfl) (.tmp rfl) Try.underlying3 Try.underlying5) <| .cons (.buildSlice (t := 3) (out := ([(b8 (IntKind.wrap .u8 (shrI .i64 a1 (IntKind.wrap .i64 ((8 : Int) * x_28.1)))))] : List UInt8).flatMap enc8) (lt1 rfl) (nm rfl) (.cons (.tmp rfl) (by first | exact ⟨rfl, rfl⟩ | rfl) (.nil)) Try.underlying33 zero5 el5 (by decide) (by decide) (fill8 rfl (.c (row8w _) .n)) (still_all enc8_still _)) <| .cons (.app (enc := enc8) (lt1 rfl) (nm rfl) (.tmp rfl) (Src.own (.tmp rfl) rfl (lendAll enc8_len _) (flatMap_length enc8_len _) (one_all enc8_one _) (.inl rfl)) Try.underlying33 ⟨_, Try.underlying33, by intro k hk; cases hk⟩ el5 rfl enc8_len rfl rfl (by decide) hl1_31) <| .cons (.assign (lt1 rfl) (.tmp rfl)) <| ARun.nil _ _ _) ?_
          refine AWP.vc (s' := ⟨[(0, .own 1 1 0 l1_31.length), (1, .sc (.int .i64 a1)), (6, .sc (.int .i64 x_28.1))], [(1, ⟨5, true, l1_31.flatMap enc8⟩)]⟩) (VC.sub (.c rfl <| .c rfl <| .c rfl <| .n _) (.c rfl <| .n _)) ?_
          obtain ⟨t6_32, ht6_32, h⟩ := letS h
          refine AWP.region (.cons (.move (lt1 rfl) (.tmp rfl)) <| .cons (.sub (lt1 rfl) (.tmp rfl) (.const _ _ _)) <| .cons (.assign (lt1 rfl) (.tmp rfl)) <| ARun.nil _ _ _) ?_
          exact endJ (t6_32, l1_31) h (by subst ht6_32; exact VC.sub (.c rfl <| .c rfl <| .c rfl <| .n _) (.c rfl <| .n _))
        · have h := iteF hc h
          refine AWP.exit ?_
          exact endJ x_28.2 h (VC.sub (.c rfl <| .n _) (.c rfl <| .n _))
    · refine AWP.vc (s' := ⟨[(0, .own 1 1 0 a0_b.length), (1, .sc (.int .i64 a1)), (5, .sc (.int .i64 p_1))], [(1, ⟨5, true, a0_b.flatMap enc8⟩)]⟩) (VC.sub (.c rfl <| .c rfl <| .c rfl <| .n _) (.c rfl <| .n _)) ?_
      refine AWP.loopM (S := fun x_11 : Int => ⟨[(0, .own 1 1 0 a0_b.length), (1, .sc (.int .i64 a1)), (5, .sc (.int .i64 x_11))], [(1, ⟨5, true, a0_b.flatMap enc8⟩)]⟩) (x := p_1) (fun nx_12 x_11 h => ?_) h
      unfold m12o_L1 at h
      refine AWP.seq ?_
      refine AWP.seq ?_
      obtain ⟨ha_13, h⟩ := asrtGS h
      obtain ⟨t24_14, ht24_14, h⟩ := letS h
      refine AWP.region (.cons (.move (lt1 rfl) (.tmp rfl)) <| .cons (.gtr (lt1 rfl) (.tmp rfl) (.const _ _ _)) <| .cons (.move (lt1 rfl) (.tmp rfl)) <| .guard (j := 2) (dj := 11) rfl (lt1 rfl) rfl (lt1 rfl) (fun hg => .move (lt1 rfl) (.tmp rfl)) <| .guard (j := 2) (dj := 11) rfl (lt1 rfl) rfl (lt1 rfl) (fun hg => .lss (lt1 rfl) (.gd hg (.tmp rfl)) (.const _ _ _)) <| .cons (.pickAnd (lt1 rfl) (.tmp rfl) (.tmp rfl) (.const _ _ _)) <| .cons (.move (lt1 rfl) (.tmp rfl)) <| .guard (j := 6) (dj := 15) rfl (lt1 rfl) rfl (lt1 rfl) (fun hg => .move (lt1 rfl) (.tmp rfl)) <| .guard (j := 6) (dj := 15) rfl (lt1 rfl) rfl (lt1 rfl) (fun hg => .move (lt1 rfl) (.tmp rfl)) <| .guard (j := 6) (dj := 15) rfl (lt1 rfl) rfl (lt1 rfl) (fun hg => .mul (lt1 rfl) (.const _ _ _) (.gd hg (.tmp rfl))) <| .guard (j := 6) (dj := 15) rfl (lt1 rfl) rfl (lt1 rfl) (fun hg => .sub (lt1 rfl) (.gd hg (.tmp rfl)) (.const _ _ _)) <| .guard (j := 6) (dj := 15) rfl (lt1 rfl) rfl (lt1 rfl) (fun hg => .shr (lt1 rfl) (.gd hg (.tmp rfl)) (.gd hg (.tmp rfl)) (ha_13 hg)) <| .guard (j := 6) (dj := 15) rfl (lt1 rfl) rfl (lt1 rfl) (fun hg => .move (lt1 rfl) (.tmp rfl)) <| .guard (j := 6) (dj := 15) rfl (lt1 rfl) rfl (lt1 rfl) (fun hg => .shr (lt1 rfl) (.gd hg (.tmp rfl)) (.const _ _ _) (by decide)) <| .guard (j := 6) (dj := 15) rfl (lt1 rfl) rfl (lt1 rfl) (fun hg => .neq (lt1 rfl) (.gd hg (.tmp rfl)) (.gd hg (.tmp rfl))) <| .cons (.pickAnd (lt1 rfl) (.tmp rfl) (.tmp rfl) (.const _ _ _)) <| ARun.nil _ _ _) ?_
      refine AWP.vc (s' := ⟨[(0, .own 1 1 0 a0_b.length), (1, .sc (.int .i64 a1)), (5, .sc (.int .i64 x_11)), (24, .sc (.bool t24_14))], [(1, ⟨5, true, a0_b.flatMap enc8⟩)]⟩) (by subst ht24_14; exact VC.sub (.c rfl <| .c rfl <| .c rfl <| .c rfl <| .n _) (.c rfl <| .n _)) ?_
      refine AWP.cond (.tmp rfl) (fun hc => ?_) (fun hc => ?_)
      · have h := iteT hc h
        refine AWP.skip ?_
        refine AWP.block ?_
        obtain ⟨t5_15, ht5_15, h⟩ := letS h
        refine AWP.region (.cons (.move (lt1 rfl) (.tmp rfl)) <| .cons (.add (lt1 rfl) (.tmp rfl) (.const _ _ _)) <| .cons (.assign (lt1 rfl) (.tmp rfl)) <| ARun.nil _ _ _) ?_
        exact endJ t5_15 h (by subst ht5_15; exact VC.sub (.c rfl <| .c rfl <| .c rfl <| .n _) (.c rfl <| .n _))
      · have h := iteF hc h
        refine AWP.exit ?_
        exact endJ x_11 h (VC.sub (.c rfl <| .c rfl <| .c rfl <| .n _) (.c rfl <| .n _))
  · refine AWP.cond (.tmp rfl) (fun hc => ?_) (fun hc => ?_)
    · have h := iteT hc h
      refine AWP.region (.cons (.assign (lt1 rfl) (.const _ _ _)) <| ARun.nil _ _ _) ?_
      exact endJ (1 : Int) h (VC.sub (.c rfl <| .c rfl <| .c rfl <| .n _) (.c rfl <| .n _))
    · have h := iteF hc h
      refine AWP.skip ?_
      exact endJ (0 : Int) h (VC.sub (.c rfl <| .c rfl <| .c rfl <| .n _) (.c rfl <| .n _))
theorem c11 {β1 : Bool} {β2 : Bool} (n : Nat) (a0 : (List UInt8)) (a1 : (List UInt8)) {r : Bool} (h : m11 n a0 a1 = some r) : Spec Try.prog 11 [] [.rd β1 a0.length (a0.flatMap enc8), .rd β2 a1.length (a1.flatMap enc8)] [] (.sc (.bool r)) [] := by
  refine Spec.of (fn := Try.f11) Try.func11 Try.ntmps11 rfl rfl (le1 rfl) (fun w0 Zs Zb T0 ι0 => ?_)
  unfold m11 at h
  refine AWP.seq ?_
  refine AWP.region (.cons (.assign (lt1 rfl) (.const _ _ _)) <| ARun.nil _ _ _) ?_
  refine AWP.vc (s' := ⟨[(0, .rd β1 a0.length (a0.flatMap enc8)), (1, .rd β2 a1.length (a1.flatMap enc8))], []⟩) (VC.sub (.c rfl <| .c rfl <| .n _) (.n _)) ?_
  refine AWP.seq ?_
  refine AWP.region (.cons (.move (lt1 rfl) (.tmp rfl)) <| .cons (.bytesStr (lt1 rfl) (.tmp rfl) Try.underlying33 Try.underlying5 Try.underlying9 rfl) <| .cons (.move (lt1 rfl) (.tmp rfl)) <| .cons (.bytesStr (lt1 rfl) (.tmp rfl) Try.underlying33 Try.underlying5 Try.underlying9 rfl) <| .cons (.eqlS (lt1 rfl) (.tmp rfl) (.tmp rfl)) <| .cons (.assign (lt1 rfl) (.tmp rfl)) <| ARun.nil _ _ _) ?_
  refine AWP.ret ?_
  obtain rfl := Option.some.inj h
  refine retJ (Res.vc (s' := ⟨[(4, .sc (.bool (a0 == a1)))], []⟩) (VC.sub (.c rfl <| .n _) (.n _)) ?_)
  refine Res.drop (H := []) rfl ?_
  exact Res.of rfl (.cons (.tmp rfl) (.nil)) rfl rfl
theorem c12ox1 (n : Nat) (a1 : Int) {r : (List UInt8)} (h : m12ox1 n a1 = some r) : Spec Try.prog 12 [] [.sc (.slice none 0 0), .sc (.int .i64 a1)] [] (.own 2 1 0 r.length) [(2, ⟨5, true, r.flatMap enc8⟩)] := by
  refine Spec.of (fn := Try.f12) Try.func12 Try.ntmps12 rfl rfl (le1 rfl) (fun w0 Zs Zb T0 ι0 => ?_)
  unfold m12ox1 at h
  refine AWP.seq ?_
  refine AWP.region (.cons (.assign (lt1 rfl) (.const _ _ _)) <| ARun.nil _ _ _) ?_
  refine AWP.vc (s' := ⟨[(0, .sc (.slice none 0 0)), (1, .sc (.int .i64 a1))], []⟩) (VC.sub (.c rfl <| .c rfl <| .n _) (.n _)) ?_
  refine AWP.seq ?_
  refine AWP.region (.cons (.assign (lt1 rfl) (.const _ _ _)) <| ARun.nil _ _ _) ?_
  refine AWP.vc (s' := ⟨[(0, .sc (.slice none 0 0)), (1, .sc (.int .i64 a1)), (5, .sc (.int .i64 (0 : Int)))], []⟩) (VC.sub (.c rfl <| .c rfl <| .c rfl <| .n _) (.n _)) ?_
  refine AWP.seq ?_
  refine AWP.seq ?_
  refine AWP.region (.cons (.move (lt1 rfl) (.tmp rfl)) <| .cons (.neq (lt1 rfl) (.tmp rfl) (.const _ _ _)) <| ARun.nil _ _ _) ?_
  refine AWP.vc (s' := ⟨[(0, .sc (.slice none 0 0)), (1, .sc (.int .i64 a1)), (5, .sc (.int .i64 (0 : Int))), (8, .sc (.bool (!decide (a1 = (0 : Int)))))], []⟩) (VC.sub (.c rfl <| .c rfl <| .c rfl <| .c rfl <| .n _) (.n _)) ?_
  refine AWP.join' (S := fun p_1 : Int => ⟨[(0, .sc (.slice none 0 0)), (1, .sc (.int .i64 a1)), (5, .sc (.int .i64 p_1))], []⟩) h (fun p_1 h => ?_) (fun k_2 h => ?_)
  · refine AWP.seq ?_
    refine AWP.joinB' (S := fun p_16 : Int => ⟨[(0, .sc (.slice none 0 0)), (1, .sc (.int .i64 a1)), (5, .sc (.int .i64 p_16))], []⟩) h (fun p_16 h => ?_) (fun k_17 h => ?_)
    · refine AWP.seq ?_
      obtain ⟨l2_18, hl2_18, h⟩ := bindS h
      refine AWP.region (.cons (.move (lt1 rfl) (.tmp rfl)) <| .cons (.move (lt1 rfl) (.tmp rfl)) <| .cons (.conv (lt1 rfl) (.tmp rfl) Try.underlying3 Try.underlying5) <| .cons (.buildSlice (t := 1) (out := ([(b8 (IntKind.wrap .u8 p_16))] : List UInt8).flatMap enc8) (lt1 rfl) (nm rfl) (.cons (.tmp rfl) (by first | exact ⟨rfl, rfl⟩ | rfl) (.nil)) Try.underlying33 zero5 el5 (by decide) (by decide) (fill8 rfl (.c (row8w _) .n)) (still_all enc8_still _)) <| .vc (VC.nilOwn (d := 27) (t := 2) (sz := 1) (E := 5) rfl (nm rfl)) <| .cons (.app (enc := enc8) (lt1 rfl) (nm rfl) (.tmp rfl) (Src.own (.tmp rfl) rfl (lendAll enc8_len _) (flatMap_length enc8_len _) (one_all enc8_one _) (.inl rfl)) Try.underlying33 ⟨_, Try.underlying33, by intro k hk; cases hk⟩ el5 rfl enc8_len rfl rfl (by decide) hl2_18) <| .cons (.assign (lt1 rfl) (.tmp rfl)) <| ARun.nil _ _ _) ?_
      refine AWP.vc (s' := ⟨[(0, .own 2 1 0 l2_18.length), (1, .sc (.int .i64 a1)), (5, .sc (.int .i64 p_16))], [(2, ⟨5, true, l2_18.flatMap enc8⟩)]⟩) (VC.sub (.c rfl <| .c rfl <| .c rfl <| .n _) (.c rfl <| .n _)) ?_
      refine AWP.seq ?_
      refine AWP.seq ?_
      obtain ⟨t6_19, ht6_19, h⟩ := letS h
      refine AWP.region (.cons (.move (lt1 rfl) (.tmp rfl)) <| .cons (.sub (lt1 rfl) (.tmp rfl) (.const _ _ _)) <| .cons (.assign (lt1 rfl) (.tmp rfl)) <| ARun.nil _ _ _) ?_
      refine AWP.vc (s' := ⟨[(0, .own 2 1 0 l2_18.length), (1, .sc (.int .i64 a1)), (6, .sc (.int .i64 t6_19))], [(2, ⟨5, true, l2_18.flatMap enc8⟩)]⟩) (by subst ht6_19; exact VC.sub (.c rfl <| .c rfl <| .c rfl <| .n _) (.c rfl <| .n _)) ?_
      refine AWP.joinB' (S := fun p_33 : (List UInt8) => ⟨[(0, .own 2 1 0 p_33.length)], [(2, ⟨5, true, p_33.flatMap enc8⟩)]⟩) h (fun p_33 h => ?_) (fun k_34 h => ?_)
      · refine AWP.seq ?_
        refine AWP.region (.cons (.move (lt1 rfl) (.tmp rfl)) <| .cons (.assign (lt1 rfl) (.tmp rfl)) <| ARun.nil _ _ _) ?_
        refine AWP.ret ?_
        obtain rfl := Option.some.inj h
        refine retJ (Res.vc (s' := ⟨[(4, .own 2 1 0 p_33.length)], [(2, ⟨5, true, p_33.flatMap enc8⟩)]⟩) (VC.sub (.c rfl <| .n _) (.c rfl <| .n _)) ?_)
        refine Res.sub (H := [(2, ⟨5, true, p_33.flatMap enc8⟩)]) (.c rfl <| .n _) ?_
        exact Res.of rfl (.cons (.tmp rfl) (.nil)) rfl rfl
      · refine AWP.vc (s' := ⟨[(0, .own 2 1 0 l2_18.length), (1, .sc (.int .i64 a1)), (6, .sc (.int .i64 t6_19))], [(2, ⟨5, true, l2_18.flatMap enc8⟩)]⟩) (VC.sub (.c rfl <| .c rfl <| .c rfl <| .n _) (.c rfl <| .n _)) ?_
        refine AWP.loopM (S := fun x_28 : Int × (List UInt8) => ⟨[(0, .own 2 1 0 x_28.2.length), (1, .sc (.int .i64 a1)), (6, .sc (.int .i64 x_28.1))], [(2, ⟨5, true, x_28.2.flatMap enc8⟩)]⟩) (x := (t6_19, l2_18)) (fun nx_29 x_28 h => ?_) h
        unfold m12ox1_L2 at h
        refine AWP.seq ?_
        refine AWP.seq ?_
        refine AWP.region (.cons (.move (lt1 rfl) (.tmp rfl)) <| .cons (.geq (lt1 rfl) (.tmp rfl) (.const _ _ _)) <| ARun.nil _ _ _) ?_
        refine AWP.vc (s' := ⟨[(0, .own 2 1 0 x_28.2.length), (1, .sc (.int .i64 a1)), (6, .sc (.int .i64 x_28.1)), (35, .sc (.bool (decide ((0 : Int) ≤ x_28.1))))], [(2, ⟨5, true, x_28.2.flatMap enc8⟩)]⟩) (VC.sub (.c rfl <| .c rfl <| .c rfl <| .c rfl <| .n _) (.c rfl <| .n _)) ?_
        refine AWP.cond (.tmp rfl) (fun hc => ?_) (fun hc => ?_)
        · have h := iteT hc h
          refine AWP.skip ?_
          refine AWP.seq ?_
          refine AWP.block ?_
          obtain ⟨ha_30, h⟩ := asrtS h
          obtain ⟨l2_31, hl2_31, h⟩ := bindS h
          refine AWP.region (.cons (.move (lt1 rfl) (.tmp rfl)) <| .cons (.move (lt1 rfl) (.tmp rfl)) <| .cons (.move (lt1 rfl) (.tmp rfl)) <| .cons (.mul (lt1 rfl) (.const _ _ _) (.tmp rfl)) <| .cons (.shr (lt1 rfl) (.tmp rfl) (.tmp rfl) ha_30) <| .cons (.conv (lt1 rfl) (.tmp rfl) Try.underlying3 Try.underlying5) <| .cons (.buildSlice (t := 3) (out := ([(b8 (IntKind.wrap .u8 (shrI .i64 a1 (IntKind.wrap .i64 ((8 : Int) * x_28.1)))))] : List UInt8).flatMap enc8) (lt1 rfl) (nm rfl) (.cons (.tmp rfl) (by first | exact ⟨rfl, rfl⟩ | rfl) (.nil)) Try.underlying33 zero5 el5 (by decide) (by decide) (fill8 rfl (.c (row8w _) .n)) (still_all enc8_still _)) <| .cons (.app (enc := enc8) (lt1 rfl) (nm rfl) (.tmp rfl) (Src.own (.tmp rfl) rfl (lendAll enc8_len _) (flatMap_length enc8_len _) (one_all enc8_one _) (.inl rfl)) Try.underlying33 ⟨_, Try.underlying33, by intro k hk; cases hk⟩ el5 rfl enc8_len rfl rfl (by decide) hl2_31) <| .cons (.assign (lt1 rfl) (.tmp rfl)) <| ARun.nil _ _ _) ?_
          refine AWP.vc (s' := ⟨[(0, .own 2 1 0 l2_31.length), (1, .sc (.int .i64 a1)), (6, .sc (.int .i64 x_28.1))], [(2, ⟨5, true, l2_31.flatMap enc8⟩)]⟩) (VC.sub (.c rfl <| .c rfl <| .c rfl <| .n _) (.c rfl <| .n _)) ?_
          obtain ⟨t6_32, ht6_32, h⟩ := letS h
          refine AWP.region (.cons (.move (lt1 rfl) (.tmp rfl)) <| .cons (.sub (lt1 rfl) (.tmp rfl) (.const _ _ _)) <| .cons (.assign (lt1 rfl) (.tmp rfl)) <| ARun.nil _ _ _) ?_
          exact endJ (t6_32, l2_31) h (by subst ht6_32; exact VC.sub (.c rfl <| .c rfl <| .c rfl <| .n _) (.c rfl <| .n _))
        · have h := iteF hc h
          refine AWP.exit ?_
          exact endJ x_28.2 h (VC.sub (.c rfl <| .n _) (.c rfl <| .n _))
    · refine AWP.vc (s' := ⟨[(0, .sc (.slice none 0 0)), (1, .sc (.int .i64 a1)), (5, .sc (.int .i64 p_1))], []⟩) (VC.sub (.c rfl <| .c rfl <| .c rfl <| .n _) (.n _)) ?_
      refine AWP.loopM (S := fun x_11 : Int => ⟨[(0, .sc (.slice none 0 0)), (1, .sc (.int .i64 a1)), (5, .sc (.int .i64 x_11))], []⟩) (x := p_1) (fun nx_12 x_11 h => ?_) h
      unfold m12ox1_L1 at h
      refine AWP.seq ?_
      refine AWP.seq ?_
      obtain ⟨ha_13, h⟩ := asrtGS h
      obtain ⟨t24_14, ht24_14, h⟩ := letS h
      refine AWP.region (.cons (.move (lt1 rfl) (.tmp rfl)) <| .cons (.gtr (lt1 rfl) (.tmp rfl) (.const _ _ _)) <| .cons (.move (lt1 rfl) (.tmp rfl)) <| .guard (j := 2) (dj := 11) rfl (lt1 rfl) rfl (lt1 rfl) (fun hg => .move (lt1 rfl) (.tmp rfl)) <| .guard (j := 2) (dj := 11) rfl (lt1 rfl) rfl (lt1 rfl) (fun hg => .lss (lt1 rfl) (.gd hg (.tmp rfl)) (.const _ _ _)) <| .cons (.pickAnd (lt1 rfl) (.tmp rfl) (.tmp rfl) (.const _ _ _)) <| .cons (.move (lt1 rfl) (.tmp rfl)) <| .guard (j := 6) (dj := 15) rfl (lt1 rfl) rfl (lt1 rfl) (fun hg => .move (lt1 rfl) (.tmp rfl)) <| .guard (j := 6) (dj := 15) rfl (lt1 rfl) rfl (lt1 rfl) (fun hg => .move (lt1 rfl) (.tmp rfl)) <| .guard (j := 6) (dj := 15) rfl (lt1 rfl) rfl (lt1 rfl) (fun hg => .mul (lt1 rfl) (.const _ _ _) (.gd hg (.tmp rfl))) <| .guard (j := 6) (dj := 15) rfl (lt1 rfl) rfl (lt1 rfl) (fun hg => .sub (lt1 rfl) (.gd hg (.tmp rfl)) (.const _ _ _)) <| .guard (j := 6) (dj := 15) rfl (lt1 rfl) rfl (lt1 rfl) (fun hg => .shr (lt1 rfl) (.gd hg (.tmp rfl)) (.gd hg (.tmp rfl)) (ha_13 hg)) <| .guard (j := 6) (dj := 15) rfl (lt1 rfl) rfl (lt1 rfl) (fun hg => .move (lt1 rfl) (.tmp rfl)) <| .guard (j := 6) (dj := 15) rfl (lt1 rfl) rfl (lt1 rfl) (fun hg => .shr (lt1 rfl) (.gd hg (.tmp rfl)) (.const _ _ _) (by decide)) <| .guard (j := 6) (dj := 15) rfl (lt1 rfl) rfl (lt1 rfl) (fun hg => .neq (lt1 rfl) (.gd hg (.tmp rfl)) (.gd hg (.tmp rfl))) <| .cons (.pickAnd (lt1 rfl) (.tmp rfl) (.tmp rfl) (.const _ _ _)) <| ARun.nil _ _ _) ?_
      refine AWP.vc (s' := ⟨[(0, .sc (.slice none 0 0)), (1, .sc (.int .i64 a1)), (5, .sc (.int .i64 x_11)), (24, .sc (.bool t24_14))], []⟩) (by subst ht24_14; exact VC.sub (.c rfl <| .c rfl <| .c rfl <| .c rfl <| .n _) (.n _)) ?_
      refine AWP.cond (.tmp rfl) (fun hc => ?_) (fun hc => ?_)
      · have h := iteT hc h
        refine AWP.skip ?_
        refine AWP.block ?_
        obtain ⟨t5_15, ht5_15, h⟩ := letS h
        refine AWP.region (.cons (.move (lt1 rfl) (.tmp rfl)) <| .cons (.add (lt1 rfl) (.tmp rfl) (.const _ _ _)) <| .cons (.assign (lt1 rfl) (.tmp rfl)) <| ARun.nil _ _ _) ?_
        exact endJ t5_15 h (by subst ht5_15; exact VC.sub (.c rfl <| .c rfl <| .c rfl <| .n _) (.n _))
      · have h := iteF hc h
        refine AWP.exit ?_
        exact endJ x_11 h (VC.sub (.c rfl <| .c rfl <| .c rfl <| .n _) (.n _))
  · refine AWP.cond (.tmp rfl) (fun hc => ?_) (fun hc => ?_)
    · have h := iteT hc h
      refine AWP.region (.cons (.assign (lt1 rfl) (.const _ _ _)) <| ARun.nil _ _ _) ?_
      exact endJ (1 : Int) h (VC.sub (.c rfl <| .c rfl <| .c rfl <| .n _) (.n _))
    · have h := iteF hc h
      refine AWP.skip ?_
      exact endJ (0 : Int) h (VC.sub (.c rfl <| .c rfl <| .c rfl <| .n _) (.n _))
theorem c40 (n : Nat) (a1 : R59) {r : (List UInt8)} (h : m40 n a1 = some r) : Spec Try.prog 40 [] [.sc (.slice none 0 0), .agg [.sc (.int .i64 a1.X), .sc (.int .i64 a1.Y)]] [] (.rd false r.length (r.flatMap enc8)) [] := by
  refine Spec.of (fn := Try.f40) Try.func40 Try.ntmps40 rfl rfl (le1 rfl) (fun w0 Zs Zb T0 ι0 => ?_)
  unfold m40 at h
  refine AWP.seq ?_
  refine AWP.region (.cons (.box (t := 1) (n := 2) (lt1 rfl) (nm rfl) (.tmp rfl) (by first | exact ⟨rfl, rfl⟩ | rfl) rfl) <| .cons (.assign (lt1 rfl) (.const _ _ _)) <| ARun.nil _ _ _) ?_
  refine AWP.vc (s' := ⟨[(0, .sc (.slice none 0 0)), (3, .ptr 1 0)], [(1, ⟨60, false, [.sc (.int .i64 a1.X), .sc (.int .i64 a1.Y)]⟩)]⟩) (VC.sub (.c rfl <| .c rfl <| .n _) (.c rfl <| .n _)) ?_
  refine AWP.seq ?_
  obtain ⟨y_1, hy_1, h⟩ := bindS h
  obtain ⟨y_2, hy_2, h⟩ := bindS h
  refine AWP.draw (s' := ⟨[(4, .own 2 1 0 y_2.length)], [(2, ⟨5, true, y_2.flatMap enc8⟩), (1, ⟨60, false, [.sc (.int .i64 a1.X), .sc (.int .i64 a1.Y)]⟩)]⟩) mixed [⟨0, .sc (.slice none 0 0), none, []⟩, ⟨3, .ptr 1 0, none, []⟩, ⟨5, .sc (.slice none 0 0), some 0, []⟩, ⟨6, .ptr 1 (0 + 0), some 1, []⟩, ⟨7, .sc (.int .i64 a1.X), some 2, []⟩, ⟨8, .own 2 1 0 y_1.length, some 3, [6]⟩, ⟨9, .ptr 1 (0 + 1), some 4, []⟩, ⟨10, .sc (.int .i64 a1.Y), some 5, []⟩, ⟨11, .own 2 1 0 y_2.length, some 6, []⟩, ⟨4, .own 2 1 0 y_2.length, some 7, []⟩] [⟨[0], 0, 2, some (5, .sc (.slice none 0 0)), []⟩, ⟨[1], 0, 0, some (6, .ptr 1 (0 + 0)), []⟩, ⟨[3], 0, 0, some (7, .sc (.int .i64 a1.X)), []⟩, ⟨[2, 4], 0, 0, some (8, .own 2 1 0 y_1.length), [2]⟩, ⟨[1], 0, 1, some (9, .ptr 1 (0 + 1)), []⟩, ⟨[6], 0, 1, some (10, .sc (.int .i64 a1.Y)), []⟩, ⟨[5, 7], 1, 1, some (11, .own 2 1 0 y_2.length), [2, 2]⟩, ⟨[8], 2, 2, some (4, .own 2 1 0 y_2.length), []⟩] [3, 6] [[(1, ⟨60, false, [.sc (.int .i64 a1.X), .sc (.int .i64 a1.Y)]⟩)], [(2, ⟨5, true, y_1.flatMap enc8⟩), (1, ⟨60, false, [.sc (.int .i64 a1.X), .sc (.int .i64 a1.Y)]⟩)], [(2, ⟨5, true, y_2.flatMap enc8⟩), (1, ⟨60, false, [.sc (.int .i64 a1.X), .sc (.int .i64 a1.Y)]⟩)]] [[], [], [1], [0, 1, 2], [], [4], [0, 1, 2, 3, 4, 5], [0, 1, 2, 3, 4, 5, 6]] (by kernel_rfl) (by kernel_rfl) (BornL.ok (.o <| .o <| .b rfl rfl <| .b rfl rfl <| .b rfl rfl <| .b rfl rfl <| .b rfl rfl <| .b rfl rfl <| .b rfl rfl <| .b rfl rfl <| .n)) (BaseL.ok (.o rfl <| .o rfl <| .b <| .b <| .b <| .b <| .b <| .b <| .b <| .b <| .n)) rfl (by decide) (allLt rfl) (.pure rfl (fun H => .put (fun E hE => .move (lt1 rfl) (.tmp (hE.at (k := 0) rfl)))) <| .read rfl (.c (.put (fun E hE => .fieldP (lt1 rfl) (.tmp (hE.at (k := 0) rfl)) fld60_0)) (.n)) <| .read rfl (.c (.put (fun E hE => .loadP (lt1 rfl) (.tmp (hE.at (k := 0) rfl)) one3 rfl rfl rfl)) (.n)) <| .turn rfl rfl rfl rfl rfl (.called (fun E hE => AStep.call (σ := fun _ => 2) (bw := false) (lt1 rfl) (c12ox1 n a1.X hy_1) (.cons (.tmp (hE.at (k := 0) rfl)) (.ren rfl) (.cons (.tmp (hE.at (k := 1) rfl)) (.ren rfl) (.nil))) (CallOk.mk' (.n) rfl)) rfl rfl rfl) <| .read rfl (.c (.put (fun E hE => .fieldP (lt1 rfl) (.tmp (hE.at (k := 0) rfl)) fld60_1)) (.c (.put (fun E hE => .fieldP (lt1 rfl) (.tmp (hE.at (k := 0) rfl)) fld60_1)) (.n))) <| .read rfl (.c (.put (fun E hE => .loadP (lt1 rfl) (.tmp (hE.at (k := 0) rfl)) one3 rfl rfl rfl)) (.c (.put (fun E hE => .loadP (lt1 rfl) (.tmp (hE.at (k := 0) rfl)) one3 rfl rfl rfl)) (.n))) <| .turn rfl rfl rfl rfl rfl (.called (fun E hE => AStep.call (σ := fun _ => 2) (bw := false) (lt1 rfl) (c12o n y_1 a1.Y hy_2) (.cons (.tmp (hE.at (k := 0) rfl)) (.ren rfl) (.cons (.tmp (hE.at (k := 1) rfl)) (.ren rfl) (.nil))) (CallOk.mk' (.c rfl (.n)) rfl)) rfl rfl rfl) <| .read rfl (.c (.put (fun E hE => .assign (lt1 rfl) (.tmp (hE.at (k := 0) rfl)))) (.n)) <| .nil _) (fun E hE => .c (DInv.at hE (k := 9) rfl rfl rfl) <| .n _) rfl ?_
  refine AWP.ret ?_
  obtain rfl := Option.some.inj h
  refine retJ (Res.vc (s' := ⟨[(4, .rd false y_2.length (y_2.flatMap enc8))], []⟩) (VC.trans (VC.frz (d := 4) (t := 2) rfl rfl enc8_len) (VC.sub (.c rfl <| .n _) (.n _))) ?_)
  refine Res.drop (H := []) rfl ?_
  exact Res.of rfl (.cons (.tmp rfl) (.nil)) rfl rfl
theorem c45 {β1 : Bool} (n : Nat) (a0_b0 : (List UInt8)) (a0_b1 : Int) (a0_b2 : Bool) {r : (Int × (List UInt8) × Int × Bool)} (h : m45 n a0_b0 a0_b1 a0_b2 = some r) : Spec Try.prog 45 [1] [.ptr 1 0] [(1, ⟨82, false, [.rd β1 a0_b0.length (a0_b0.flatMap enc8), .sc (.int .i64 a0_b1), .sc (.bool a0_b2)]⟩)] (.sc (.int .u8 r.1)) [(1, ⟨82, false, [.rd β1 r.2.1.length (r.2.1.flatMap enc8), .sc (.int .i64 r.2.2.1), .sc (.bool r.2.2.2)]⟩)] := by
  refine Spec.of (fn := Try.f45) Try.func45 Try.ntmps45 rfl rfl (le1 rfl) (fun w0 Zs Zb T0 ι0 => ?_)
  unfold m45 at h
  refine AWP.seq ?_
  refine AWP.region (.cons (.assign (lt1 rfl) (.const _ _ _)) <| ARun.nil _ _ _) ?_
  refine AWP.vc (s' := ⟨[(0, .ptr 1 0)], [(1, ⟨82, false, [.rd β1 a0_b0.length (a0_b0.flatMap enc8), .sc (.int .i64 a0_b1), .sc (.bool a0_b2)]⟩)]⟩) (VC.sub (.c rfl <| .n _) (.c rfl <| .n _)) ?_
  refine AWP.seq ?_
  refine AWP.seq ?_
  refine AWP.draw (s' := ⟨[(0, .ptr 1 0), (12, .sc (.bool (decide ((a0_b0.length : Int) ≤ a0_b1))))], [(1, ⟨82, false, [.rd β1 a0_b0.length (a0_b0.flatMap enc8), .sc (.int .i64 a0_b1), .sc (.bool a0_b2)]⟩)]⟩) mixed [⟨0, .ptr 1 0, none, []⟩, ⟨3, .ptr 1 0, some 0, []⟩, ⟨4, .ptr 1 0, some 1, []⟩, ⟨5, .ptr 1 (0 + 1), some 2, []⟩, ⟨6, .sc (.int .i64 a0_b1), some 3, []⟩, ⟨7, .ptr 1 0, some 4, []⟩, ⟨8, .ptr 1 0, some 5, []⟩, ⟨9, .ptr 1 (0 + 0), some 6, []⟩, ⟨10, .rd β1 a0_b0.length (a0_b0.flatMap enc8), some 7, []⟩, ⟨11, .sc (.int .i64 (a0_b0.length : Int)), some 8, []⟩, ⟨12, .sc (.bool (decide ((a0_b0.length : Int) ≤ a0_b1))), some 9, []⟩] [⟨[0], 0, 0, some (3, .ptr 1 0), []⟩, ⟨[1], 0, 0, some (4, .ptr 1 0), []⟩, ⟨[2], 0, 0, some (5, .ptr 1 (0 + 1)), []⟩, ⟨[3], 0, 0, some (6, .sc (.int .i64 a0_b1)), []⟩, ⟨[0], 0, 0, some (7, .ptr 1 0), []⟩, ⟨[5], 0, 0, some (8, .ptr 1 0), []⟩, ⟨[6], 0, 0, some (9, .ptr 1 (0 + 0)), []⟩, ⟨[7], 0, 0, some (10, .rd β1 a0_b0.length (a0_b0.flatMap enc8)), []⟩, ⟨[8], 0, 0, some (11, .sc (.int .i64 (a0_b0.length : Int))), []⟩, ⟨[4, 9], 0, 0, some (12, .sc (.bool (decide ((a0_b0.length : Int) ≤ a0_b1)))), []⟩] [] [[(1, ⟨82, false, [.rd β1 a0_b0.length (a0_b0.flatMap enc8), .sc (.int .i64 a0_b1), .sc (.bool a0_b2)]⟩)]] [[], [0], [0, 1], [0, 1, 2], [], [4], [4, 5], [4, 5, 6], [4, 5, 6, 7], [0, 1, 2, 3, 4, 5, 6, 7, 8]] (by kernel_rfl) (by kernel_rfl) (BornL.ok (.o <| .b rfl rfl <| .b rfl rfl <| .b rfl rfl <| .b rfl rfl <| .b rfl rfl <| .b rfl rfl <| .b rfl rfl <| .b rfl rfl <| .b rfl rfl <| .b rfl rfl <| .n)) (BaseL.ok (.o rfl <| .b <| .b <| .b <| .b <| .b <| .b <| .b <| .b <| .b <| .b <| .n)) rfl (by decide) (allLt rfl) (.read rfl (.c (.put (fun E hE => .move (lt1 rfl) (.tmp (hE.at (k := 0) rfl)))) .n) <| .read rfl (.c (.put (fun E hE => .nilCheck (lt1 rfl) (.tmp (hE.at (k := 0) rfl)) trivial)) .n) <| .read rfl (.c (.put (fun E hE => .fieldP (lt1 rfl) (.tmp (hE.at (k := 0) rfl)) fld82_1)) .n) <| .read rfl (.c (.put (fun E hE => .loadP (lt1 rfl) (.tmp (hE.at (k := 0) rfl)) one3 rfl rfl rfl)) .n) <| .read rfl (.c (.put (fun E hE => .move (lt1 rfl) (.tmp (hE.at (k := 0) rfl)))) .n) <| .read rfl (.c (.put (fun E hE => .nilCheck (lt1 rfl) (.tmp (hE.at (k := 0) rfl)) trivial)) .n) <| .read rfl (.c (.put (fun E hE => .fieldP (lt1 rfl) (.tmp (hE.at (k := 0) rfl)) fld82_0)) .n) <| .read rfl (.c (.put (fun E hE => .loadP (lt1 rfl) (.tmp (hE.at (k := 0) rfl)) one33 rfl rfl rfl)) .n) <| .pure rfl (fun H => .put (fun E hE => .lenRd (lt1 rfl) (.tmp (hE.at (k := 0) rfl)) Try.underlying33)) <| .pure rfl (fun H => .put (fun E hE => .geq (lt1 rfl) (.tmp (hE.at (k := 0) rfl)) (.tmp (hE.at (k := 1) rfl)))) <| .nil _) (fun E hE => .c (DInv.at hE (k := 0) rfl rfl rfl) <| .c (DInv.at hE (k := 10) rfl rfl rfl) <| .n _) rfl ?_
  refine AWP.vc (s' := ⟨[(0, .ptr 1 0), (12, .sc (.bool (decide ((a0_b0.length : Int) ≤ a0_b1))))], [(1, ⟨82, false, [.rd β1 a0_b0.length (a0_b0.flatMap enc8), .sc (.int .i64 a0_b1), .sc (.bool a0_b2)]⟩)]⟩) (VC.sub (.c rfl <| .c rfl <| .n _) (.c rfl <| .n _)) ?_
  refine AWP.cond (.tmp rfl) (fun hc => ?_) (fun hc => ?_)
  · have h := iteT hc h
    refine AWP.seq ?_
    refine AWP.region (.cons (.move (lt1 rfl) (.tmp rfl)) <| .cons (.nilCheck (lt1 rfl) (.tmp rfl) trivial) <| .cons (.fieldP (lt1 rfl) (.tmp rfl) fld82_2) <| .cons (.storeP (.tmp rfl) (.const _ _ _) sz4 rfl (lt1 rfl) rfl (by intro h; cases h) rfl) <| ARun.nil _ _ _) ?_
    refine AWP.vc (s' := ⟨[], [(1, ⟨82, false, [.rd β1 a0_b0.length (a0_b0.flatMap enc8), .sc (.int .i64 a0_b1), .sc (.bool true)]⟩)]⟩) (VC.sub (.n _) (.c rfl <| .n _)) ?_
    refine AWP.seq ?_
    refine AWP.region (.cons (.assign (lt1 rfl) (.const _ _ _)) <| ARun.nil _ _ _) ?_
    refine AWP.ret ?_
    obtain rfl := Option.some.inj h
    refine retJ (Res.vc (s' := ⟨[(2, .sc (.int .u8 (0 : Int)))], [(1, ⟨82, false, [.rd β1 a0_b0.length (a0_b0.flatMap enc8), .sc (.int .i64 a0_b1), .sc (.bool true)]⟩)]⟩) (VC.sub (.c rfl <| .n _) (.c rfl <| .n _)) ?_)
    refine Res.sub (H := [(1, ⟨82, false, [.rd β1 a0_b0.length (a0_b0.flatMap enc8), .sc (.int .i64 a0_b1), .sc (.bool true)]⟩)]) (.c rfl <| .n _) ?_
    exact Res.of rfl (.cons (.tmp rfl) (.nil)) rfl rfl
  · have h := iteF hc h
    refine AWP.skip ?_
    refine AWP.seq ?_
    obtain ⟨c_1, hc_1, h⟩ := letS h
    refine AWP.region (.cons (.move (lt1 rfl) (.tmp rfl)) <| .cons (.nilCheck (lt1 rfl) (.tmp rfl) trivial) <| .cons (.fieldP (lt1 rfl) (.tmp rfl) fld82_1) <| .cons (.loadP (lt1 rfl) (.tmp rfl) one3 rfl rfl rfl) <| .cons (.add (lt1 rfl) (.tmp rfl) (.const _ _ _)) <| .cons (.nilCheck (lt1 rfl) (.tmp rfl) trivial) <| .cons (.fieldP (lt1 rfl) (.tmp rfl) fld82_1) <| .cons (.storeP (.tmp rfl) (.tmp rfl) sz3 rfl (lt1 rfl) rfl (by intro h; cases h) rfl) <| ARun.nil _ _ _) ?_
    refine AWP.vc (s' := ⟨[(0, .ptr 1 0)], [(1, ⟨82, false, [.rd β1 a0_b0.length (a0_b0.flatMap enc8), .sc (.int .i64 c_1), .sc (.bool a0_b2)]⟩)]⟩) (by subst hc_1; exact VC.sub (.c rfl <| .n _) (.c rfl <| .n _)) ?_
    refine AWP.seq ?_
    obtain ⟨y_2, hy_2, h⟩ := bindS h
    refine AWP.draw (s' := ⟨[(2, .sc (.int .u8 (y_2.toNat : Int)))], [(1, ⟨82, false, [.rd β1 a0_b0.length (a0_b0.flatMap enc8), .sc (.int .i64 c_1), .sc (.bool a0_b2)]⟩)]⟩) mixed [⟨0, .ptr 1 0, none, []⟩, ⟨23, .ptr 1 0, some 0, []⟩, ⟨24, .ptr 1 0, some 1, []⟩, ⟨25, .ptr 1 (0 + 0), some 2, []⟩, ⟨26, .rd β1 a0_b0.length (a0_b0.flatMap enc8), some 3, []⟩, ⟨27, .ptr 1 0, some 4, []⟩, ⟨28, .ptr 1 0, some 5, []⟩, ⟨29, .ptr 1 (0 + 1), some 6, []⟩, ⟨30, .sc (.int .i64 c_1), some 7, []⟩, ⟨31, .sc (.int .i64 (IntKind.wrap .i64 (c_1 - (1 : Int)))), some 8, []⟩, ⟨32, .rptr β1 [.sc (.int .u8 (y_2.toNat : Int))], some 9, []⟩, ⟨33, .sc (.int .u8 (y_2.toNat : Int)), some 10, []⟩, ⟨2, .sc (.int .u8 (y_2.toNat : Int)), some 11, []⟩] [⟨[0], 0, 0, some (23, .ptr 1 0), []⟩, ⟨[1], 0, 0, some (24, .ptr 1 0), []⟩, ⟨[2], 0, 0, some (25, .ptr 1 (0 + 0)), []⟩, ⟨[3], 0, 0, some (26, .rd β1 a0_b0.length (a0_b0.flatMap enc8)), []⟩, ⟨[0], 0, 0, some (27, .ptr 1 0), []⟩, ⟨[5], 0, 0, some (28, .ptr 1 0), []⟩, ⟨[6], 0, 0, some (29, .ptr 1 (0 + 1)), []⟩, ⟨[7], 0, 0, some (30, .sc (.int .i64 c_1)), []⟩, ⟨[8], 0, 0, some (31, .sc (.int .i64 (IntKind.wrap .i64 (c_1 - (1 : Int))))), []⟩, ⟨[4, 9], 0, 0, some (32, .rptr β1 [.sc (.int .u8 (y_2.toNat : Int))]), []⟩, ⟨[10], 0, 0, some (33, .sc (.int .u8 (y_2.toNat : Int))), []⟩, ⟨[11], 0, 0, some (2, .sc (.int .u8 (y_2.toNat : Int))), []⟩] [] [[(1, ⟨82, false, [.rd β1 a0_b0.length (a0_b0.flatMap enc8), .sc (.int .i64 c_1), .sc (.bool a0_b2)]⟩)]] [[], [0], [0, 1], [0, 1, 2], [], [4], [4, 5], [4, 5, 6], [4, 5, 6, 7], [0, 1, 2, 3, 4, 5, 6, 7, 8], [0, 1, 2, 3, 4, 5, 6, 7, 8, 9], [0, 1, 2, 3, 4, 5, 6, 7, 8, 9, 10]] (by kernel_rfl) (by kernel_rfl) (BornL.ok (.o <| .b rfl rfl <| .b rfl rfl <| .b rfl rfl <| .b rfl rfl <| .b rfl rfl <| .b rfl rfl <| .b rfl rfl <| .b rfl rfl <| .b rfl rfl <| .b rfl rfl <| .b rfl rfl <| .b rfl rfl <| .n)) (BaseL.ok (.o rfl <| .b <| .b <| .b <| .b <| .b <| .b <| .b <| .b <| .b <| .b <| .b <| .b <| .n)) rfl (by decide) (allLt rfl) (.read rfl (.c (.put (fun E hE => .move (lt1 rfl) (.tmp (hE.at (k := 0) rfl)))) .n) <| .read rfl (.c (.put (fun E hE => .nilCheck (lt1 rfl) (.tmp (hE.at (k := 0) rfl)) trivial)) .n) <| .read rfl (.c (.put (fun E hE => .fieldP (lt1 rfl) (.tmp (hE.at (k := 0) rfl)) fld82_0)) .n) <| .read rfl (.c (.put (fun E hE => .loadP (lt1 rfl) (.tmp (hE.at (k := 0) rfl)) one33 rfl rfl rfl)) .n) <| .read rfl (.c (.put (fun E hE => .move (lt1 rfl) (.tmp (hE.at (k := 0) rfl)))) .n) <| .read rfl (.c (.put (fun E hE => .nilCheck (lt1 rfl) (.tmp (hE.at (k := 0) rfl)) trivial)) .n) <| .read rfl (.c (.put (fun E hE => .fieldP (lt1 rfl) (.tmp (hE.at (k := 0) rfl)) fld82_1)) .n) <| .read rfl (.c (.put (fun E hE => .loadP (lt1 rfl) (.tmp (hE.at (k := 0) rfl)) one3 rfl rfl rfl)) .n) <| .pure rfl (fun H => .put (fun E hE => .sub (lt1 rfl) (.tmp (hE.at (k := 0) rfl)) (.const _ _ _))) <| .pure rfl (fun H => .put (fun E hE => .indexRd (enc := enc8) (lt1 rfl) (.tmp (hE.at (k := 0) rfl)) (.tmp (hE.at (k := 1) rfl)) Try.underlying33 sz5 enc8_len rfl hy_2)) <| .pure rfl (fun H => .put (fun E hE => .loadR (v := .sc (.int .u8 (y_2.toNat : Int))) (lt1 rfl) (.tmp (hE.at (k := 0) rfl)) one5 rfl)) <| .pure rfl (fun H => .put (fun E hE => .assign (lt1 rfl) (.tmp (hE.at (k := 0) rfl)))) <| .nil _) (fun E hE => .c (DInv.at hE (k := 12) rfl rfl rfl) <| .n _) rfl ?_
    refine AWP.ret ?_
    obtain rfl := Option.some.inj h
    refine retJ (Res.vc (s' := ⟨[(2, .sc (.int .u8 (y_2.toNat : Int)))], [(1, ⟨82, false, [.rd β1 a0_b0.length (a0_b0.flatMap enc8), .sc (.int .i64 c_1), .sc (.bool a0_b2)]⟩)]⟩) (VC.sub (.c rfl <| .n _) (.c rfl <| .n _)) ?_)
    refine Res.sub (H := [(1, ⟨82, false, [.rd β1 a0_b0.length (a0_b0.flatMap enc8), .sc (.int .i64 c_1), .sc (.bool a0_b2)]⟩)]) (.c rfl <| .n _) ?_
    exact Res.of rfl (.cons (.tmp rfl) (.nil)) rfl rfl
theorem c12x2 (n : Nat) (a1 : Int) {r : (List UInt8)} (h : m12x2 n a1 = some r) : Spec Try.prog 12 [] [.sc (.slice none 0 0), .sc (.int .i64 a1)] [] (.rd false r.length (r.flatMap enc8)) [] := by
  refine Spec.of (fn := Try.f12) Try.func12 Try.ntmps12 rfl rfl (le1 rfl) (fun w0 Zs Zb T0 ι0 => ?_)
  unfold m12x2 at h
  refine AWP.seq ?_
  refine AWP.region (.cons (.assign (lt1 rfl) (.const _ _ _)) <| ARun.nil _ _ _) ?_
  refine AWP.vc (s' := ⟨[(0, .sc (.slice none 0 0)), (1, .sc (.int .i64 a1))], []⟩) (VC.sub (.c rfl <| .c rfl <| .n _) (.n _)) ?_
  refine AWP.seq ?_
  refine AWP.region (.cons (.assign (lt1 rfl) (.const _ _ _)) <| ARun.nil _ _ _) ?_
  refine AWP.vc (s' := ⟨[(0, .sc (.slice none 0 0)), (1, .sc (.int .i64 a1)), (5, .sc (.int .i64 (0 : Int)))], []⟩) (VC.sub (.c rfl <| .c rfl <| .c rfl <| .n _) (.n _)) ?_
  refine AWP.seq ?_
  refine AWP.seq ?_
  refine AWP.region (.cons (.move (lt1 rfl) (.tmp rfl)) <| .cons (.neq (lt1 rfl) (.tmp rfl) (.const _ _ _)) <| ARun.nil _ _ _) ?_
  refine AWP.vc (s' := ⟨[(0, .sc (.slice none 0 0)), (1, .sc (.int .i64 a1)), (5, .sc (.int .i64 (0 : Int))), (8, .sc (.bool (!decide (a1 = (0 : Int)))))], []⟩) (VC.sub (.c rfl <| .c rfl <| .c rfl <| .c rfl <| .n _) (.n _)) ?_
  refine AWP.join' (S := fun p_1 : Int => ⟨[(0, .sc (.slice none 0 0)), (1, .sc (.int .i64 a1)), (5, .sc (.int .i64 p_1))], []⟩) h (fun p_1 h => ?_) (fun k_2 h => ?_)
  · refine AWP.seq ?_
    refine AWP.joinB' (S := fun p_16 : Int => ⟨[(0, .sc (.slice none 0 0)), (1, .sc (.int .i64 a1)), (5, .sc (.int .i64 p_16))], []⟩) h (fun p_16 h => ?_) (fun k_17 h => ?_)
    · refine AWP.seq ?_
      obtain ⟨l2_18, hl2_18, h⟩ := bindS h
      refine AWP.region (.cons (.move (lt1 rfl) (.tmp rfl)) <| .cons (.move (lt1 rfl) (.tmp rfl)) <| .cons (.conv (lt1 rfl) (.tmp rfl) Try.underlying3 Try.underlying5) <| .cons (.buildSlice (t := 1) (out := ([(b8 (IntKind.wrap .u8 p_16))] : List UInt8).flatMap enc8) (lt1 rfl) (nm rfl) (.cons (.tmp rfl) (by first | exact ⟨rfl, rfl⟩ | rfl) (.nil)) Try.underlying33 zero5 el5 (by decide) (by decide) (fill8 rfl (.c (row8w _) .n)) (still_all enc8_still _)) <| .vc (VC.nilOwn (d := 27) (t := 2) (sz := 1) (E := 5) rfl (nm rfl)) <| .cons (.app (enc := enc8) (lt1 rfl) (nm rfl) (.tmp rfl) (Src.own (.tmp rfl) rfl (lendAll enc8_len _) (flatMap_length enc8_len _) (one_all enc8_one _) (.inl rfl)) Try.underlying33 ⟨_, Try.underlying33, by intro k hk; cases hk⟩ el5 rfl enc8_len rfl rfl (by decide) hl2_18) <| .cons (.assign (lt1 rfl) (.tmp rfl)) <| ARun.nil _ _ _) ?_
      refine AWP.vc (s' := ⟨[(0, .own 2 1 0 l2_18.length), (1, .sc (.int .i64 a1)), (5, .sc (.int .i64 p_16))], [(2, ⟨5, true, l2_18.flatMap enc8⟩)]⟩) (VC.sub (.c rfl <| .c rfl <| .c rfl <| .n _) (.c rfl <| .n _)) ?_
      refine AWP.seq ?_
      refine AWP.seq ?_
      obtain ⟨t6_19, ht6_19, h⟩ := letS h
      refine AWP.region (.cons (.move (lt1 rfl) (.tmp rfl)) <| .cons (.sub (lt1 rfl) (.tmp rfl) (.const _ _ _)) <| .cons (.assign (lt1 rfl) (.tmp rfl)) <| ARun.nil _ _ _) ?_
      refine AWP.vc (s' := ⟨[(0, .own 2 1 0 l2_18.length), (1, .sc (.int .i64 a1)), (6, .sc (.int .i64 t6_19))], [(2, ⟨5, true, l2_18.flatMap enc8⟩)]⟩) (by subst ht6_19; exact VC.sub (.c rfl <| .c rfl <| .c rfl <| .n _) (.c rfl <| .n _)) ?_
      refine AWP.joinB' (S := fun p_33 : (List UInt8) => ⟨[(0, .own 2 1 0 p_33.length)], [(2, ⟨5, true, p_33.flatMap enc8⟩)]⟩) h (fun p_33 h => ?_) (fun k_34 h => ?_)
      · refine AWP.seq ?_
        refine AWP.region (.cons (.move (lt1 rfl) (.tmp rfl)) <| .cons (.assign (lt1 rfl) (.tmp rfl)) <| ARun.nil _ _ _) ?_
        refine AWP.ret ?_
        obtain rfl := Option.some.inj h
        refine retJ (Res.vc (s' := ⟨[(4, .rd false p_33.length (p_33.flatMap enc8))], []⟩) (VC.trans (VC.frz (d := 4) (t := 2) rfl rfl enc8_len) (VC.sub (.c rfl <| .n _) (.n _))) ?_)
        refine Res.drop (H := []) rfl ?_
        exact Res.of rfl (.cons (.tmp rfl) (.nil)) rfl rfl
      · refine AWP.vc (s' := ⟨[(0, .own 2 1 0 l2_18.length), (1, .sc (.int .i64 a1)), (6, .sc (.int .i64 t6_19))], [(2, ⟨5, true, l2_18.flatMap enc8⟩)]⟩) (VC.sub (.c rfl <| .c rfl <| .c rfl <| .n _) (.c rfl <| .n _)) ?_
        refine AWP.loopM (S := fun x_28 : Int × (List UInt8) => ⟨[(0, .own 2 1 0 x_28.2.length), (1, .sc (.int .i64 a1)), (6, .sc (.int .i64 x_28.1))], [(2, ⟨5, true, x_28.2.flatMap enc8⟩)]⟩) (x := (t6_19, l2_18)) (fun nx_29 x_28 h => ?_) h
        unfold m12x2_L2 at h
        refine AWP.seq ?_
        refine AWP.seq ?_
        refine AWP.region (.cons (.move (lt1 rfl) (.tmp rfl)) <| .cons (.geq (lt1 rfl) (.tmp rfl) (.const _ _ _)) <| ARun.nil _ _ _) ?_
        refine AWP.vc (s' := ⟨[(0, .own 2 1 0 x_28.2.length), (1, .sc (.int .i64 a1)), (6, .sc (.int .i64 x_28.1)), (35, .sc (.bool (decide ((0 : Int) ≤ x_28.1))))], [(2, ⟨5, true, x_28.2.flatMap enc8⟩)]⟩) (VC.sub (.c rfl <| .c rfl <| .c rfl <| .c rfl <| .n _) (.c rfl <| .n _)) ?_
        refine AWP.cond (.tmp rfl) (fun hc => ?_) (fun hc => ?_)
        · have h := iteT hc h
          refine AWP.skip ?_
          refine AWP.seq ?_
          refine AWP.block ?_
          obtain ⟨ha_30, h⟩ := asrtS h
          obtain ⟨l2_31, hl2_31, h⟩ := bindS h
          refine AWP.region (.cons (.move (lt1 rfl) (.tmp rfl)) <| .cons (.move (lt1 rfl) (.tmp rfl)) <| .cons (.move (lt1 rfl) (.tmp rfl)) <| .cons (.mul (lt1 rfl) (.const _ _ _) (.tmp rfl)) <| .cons (.shr (lt1 rfl) (.tmp rfl) (.tmp rfl) ha_30) <| .cons (.conv (lt1 rfl) (.tmp rfl) Try.underlying3 Try.underlying5) <| .cons (.buildSlice (t := 3) (out := ([(b8 (IntKind.wrap .u8 (shrI .i64 a1 (IntKind.wrap .i64 ((8 : Int) * x_28.1)))))] : List UInt8).flatMap enc8) (lt1 rfl) (nm rfl) (.cons (.tmp rfl) (by first | exact ⟨rfl, rfl⟩ | rfl) (.nil)) Try.underlying33 zero5 el5 (by decide) (by decide) (fill8 rfl (.c (row8w _) .n)) (still_all enc8_still _)) <| .cons (.app (enc := enc8) (lt1 rfl) (nm rfl) (.tmp rfl) (Src.own (.tmp rfl) rfl (lendAll enc8_len _) (flatMap_length enc8_len _) (one_all enc8_one _) (.inl rfl)) Try.underlying33 ⟨_, Try.underlying33, by intro k hk; cases hk⟩ el5 rfl enc8_len rfl rfl (by decide) hl2_31) <| .cons (.assign (lt1 rfl) (.tmp rfl)) <| ARun.nil _ _ _) ?_
          refine AWP.vc (s' := ⟨[(0, .own 2 1 0 l2_31.length), (1, .sc (.int .i64 a1)), (6, .sc (.int .i64 x_28.1))], [(2, ⟨5, true, l2_31.flatMap enc8⟩)]⟩) (VC.sub (.c rfl <| .c rfl <| .c rfl <| .n _) (.c rfl <| .n _)) ?_
          obtain ⟨t6_32, ht6_32, h⟩ := letS h
          refine AWP.region (.cons (.move (lt1 rfl) (.tmp rfl)) <| .cons (.sub (lt1 rfl) (.tmp rfl) (.const _ _ _)) <| .cons (.assign (lt1 rfl) (.tmp rfl)) <| ARun.nil _ _ _) ?_
          exact endJ (t6_32, l2_31) h (by subst ht6_32; exact VC.sub (.c rfl <| .c rfl <| .c rfl <| .n _) (.c rfl <| .n _))
        · have h := iteF hc h
          refine AWP.exit ?_
          exact endJ x_28.2 h (VC.sub (.c rfl <| .n _) (.c rfl <| .n _))
    · refine AWP.vc (s' := ⟨[(0, .sc (.slice none 0 0)), (1, .sc (.int .i64 a1)), (5, .sc (.int .i64 p_1))], []⟩) (VC.sub (.c rfl <| .c rfl <| .c rfl <| .n _) (.n _)) ?_
      refine AWP.loopM (S := fun x_11 : Int => ⟨[(0, .sc (.slice none 0 0)), (1, .sc (.int .i64 a1)), (5, .sc (.int .i64 x_11))], []⟩) (x := p_1) (fun nx_12 x_11 h => ?_) h
      unfold m12x2_L1 at h
      refine AWP.seq ?_
      refine AWP.seq ?_
      obtain ⟨ha_13, h⟩ := asrtGS h
      obtain ⟨t24_14, ht24_14, h⟩ := letS h
      refine AWP.region (.cons (.move (lt1 rfl) (.tmp rfl)) <| .cons (.gtr (lt1 rfl) (.tmp rfl) (.const _ _ _)) <| .cons (.move (lt1 rfl) (.tmp rfl)) <| .guard (j := 2) (dj := 11) rfl (lt1 rfl) rfl (lt1 rfl) (fun hg => .move (lt1 rfl) (.tmp rfl)) <| .guard (j := 2) (dj := 11) rfl (lt1 rfl) rfl (lt1 rfl) (fun hg => .lss (lt1 rfl) (.gd hg (.tmp rfl)) (.const _ _ _)) <| .cons (.pickAnd (lt1 rfl) (.tmp rfl) (.tmp rfl) (.const _ _ _)) <| .cons (.move (lt1 rfl) (.tmp rfl)) <| .guard (j := 6) (dj := 15) rfl (lt1 rfl) rfl (lt1 rfl) (fun hg => .move (lt1 rfl) (.tmp rfl)) <| .guard (j := 6) (dj := 15) rfl (lt1 rfl) rfl (lt1 rfl) (fun hg => .move (lt1 rfl) (.tmp rfl)) <| .guard (j := 6) (dj := 15) rfl (lt1 rfl) rfl (lt1 rfl) (fun hg => .mul (lt1 rfl) (.const _ _ _) (.gd hg (.tmp rfl))) <| .guard (j := 6) (dj := 15) rfl (lt1 rfl) rfl (lt1 rfl) (fun hg => .sub (lt1 rfl) (.gd hg (.tmp rfl)) (.const _ _ _)) <| .guard (j := 6) (dj := 15) rfl (lt1 rfl) rfl (lt1 rfl) (fun hg => .shr (lt1 rfl) (.gd hg (.tmp rfl)) (.gd hg (.tmp rfl)) (ha_13 hg)) <| .guard (j := 6) (dj := 15) rfl (lt1 rfl) rfl (lt1 rfl) (fun hg => .move (lt1 rfl) (.tmp rfl)) <| .guard (j := 6) (dj := 15) rfl (lt1 rfl) rfl (lt1 rfl) (fun hg => .shr (lt1 rfl) (.gd hg (.tmp rfl)) (.const _ _ _) (by decide)) <| .guard (j := 6) (dj := 15) rfl (lt1 rfl) rfl (lt1 rfl) (fun hg => .neq (lt1 rfl) (.gd hg (.tmp rfl)) (.gd hg (.tmp rfl))) <| .cons (.pickAnd (lt1 rfl) (.tmp rfl) (.tmp rfl) (.const _ _ _)) <| ARun.nil _ _ _) ?_
      refine AWP.vc (s' := ⟨[(0, .sc (.slice none 0 0)), (1, .sc (.int .i64 a1)), (5, .sc (.int .i64 x_11)), (24, .sc (.bool t24_14))], []⟩) (by subst ht24_14; exact VC.sub (.c rfl <| .c rfl <| .c rfl <| .c rfl <| .n _) (.n _)) ?_
      refine AWP.cond (.tmp rfl) (fun hc => ?_) (fun hc => ?_)
      · have h := iteT hc h
        refine AWP.skip ?_
        refine AWP.block ?_
        obtain ⟨t5_15, ht5_15, h⟩ := letS h
        refine AWP.region (.cons (.move (lt1 rfl) (.tmp rfl)) <| .cons (.add (lt1 rfl) (.tmp rfl) (.const _ _ _)) <| .cons (.assign (lt1 rfl) (.tmp rfl)) <| ARun.nil _ _ _) ?_
        exact endJ t5_15 h (by subst ht5_15; exact VC.sub (.c rfl <| .c rfl <| .c rfl <| .n _) (.n _))
      · have h := iteF hc h
        refine AWP.exit ?_
        exact endJ x_11 h (VC.sub (.c rfl <| .c rfl <| .c rfl <| .n _) (.n _))
  · refine AWP.cond (.tmp rfl) (fun hc => ?_) (fun hc => ?_)
    · have h := iteT hc h
      refine AWP.region (.cons (.assign (lt1 rfl) (.const _ _ _)) <| ARun.nil _ _ _) ?_
      exact endJ (1 : Int) h (VC.sub (.c rfl <| .c rfl <| .c rfl <| .n _) (.n _))
    · have h := iteF hc h
      refine AWP.skip ?_
      exact endJ (0 : Int) h (VC.sub (.c rfl <| .c rfl <| .c rfl <| .n _) (.n _))
theorem c44 {β1 : Bool} (n : Nat) (a0_b0_b0 : (List UInt8)) (a0_b0_b1 : Int) (a0_b0_b2 : Bool) {r : (Int × (List UInt8) × Int × Bool)} (h : m44 n a0_b0_b0 a0_b0_b1 a0_b0_b2 = some r) : Spec Try.prog 44 [1, 2] [.ptr 1 0] [(1, ⟨39, false, [.ptr 2 0]⟩), (2, ⟨82, false, [.rd β1 a0_b0_b0.length (a0_b0_b0.flatMap enc8), .sc (.int .i64 a0_b0_b1), .sc (.bool a0_b0_b2)]⟩)] (.sc (.int .i64 r.1)) [(1, ⟨39, false, [.ptr 2 0]⟩), (2, ⟨82, false, [.rd β1 r.2.1.length (r.2.1.flatMap enc8), .sc (.int .i64 r.2.2.1), .sc (.bool r.2.2.2)]⟩)] := by
  refine Spec.of (fn := Try.f44) Try.func44 Try.ntmps44 rfl rfl (le1 rfl) (fun w0 Zs Zb T0 ι0 => ?_)
  unfold m44 at h
  refine AWP.seq ?_
  refine AWP.region (.cons (.assign (lt1 rfl) (.const _ _ _)) <| ARun.nil _ _ _) ?_
  refine AWP.vc (s' := ⟨[(0, .ptr 1 0)], [(1, ⟨39, false, [.ptr 2 0]⟩), (2, ⟨82, false, [.rd β1 a0_b0_b0.length (a0_b0_b0.flatMap enc8), .sc (.int .i64 a0_b0_b1), .sc (.bool a0_b0_b2)]⟩)]⟩) (VC.sub (.c rfl <| .n _) (.c rfl <| .c rfl <| .n _)) ?_
  refine AWP.seq ?_
  obtain ⟨y_1, hy_1, h⟩ := bindS h
  refine AWP.region (.cons (.loadP (lt1 rfl) (.tmp rfl) one39 rfl rfl rfl) <| .cons (.call (σ := fun _ => 2) (bw := false) (lt1 rfl) (c45 (β1 := β1) n a0_b0_b0 a0_b0_b1 a0_b0_b2 hy_1) (.cons (.tmp rfl) (.ren rfl) (.nil)) (CallOk.mk' (.c rfl (.n)) rfl)) <| .cons (.conv (lt1 rfl) (.tmp rfl) Try.underlying5 Try.underlying3) <| .cons (.assign (lt1 rfl) (.tmp rfl)) <| ARun.nil _ _ _) ?_
  refine AWP.vc (s' := ⟨[(0, .ptr 1 0), (2, .sc (.int .i64 (IntKind.wrap .i64 y_1.1)))], [(2, ⟨82, false, [.rd β1 y_1.2.1.length (y_1.2.1.flatMap enc8), .sc (.int .i64 y_1.2.2.1), .sc (.bool y_1.2.2.2)]⟩), (1, ⟨39, false, [.ptr 2 0]⟩)]⟩) (VC.sub (.c rfl <| .c rfl <| .n _) (.c rfl <| .c rfl <| .n _)) ?_
  refine AWP.seq ?_
  refine AWP.seq ?_
  refine AWP.region (.cons (.loadP (lt1 rfl) (.tmp rfl) one39 rfl rfl rfl) <| .cons (.nilCheck (lt1 rfl) (.tmp rfl) trivial) <| .cons (.fieldP (lt1 rfl) (.tmp rfl) fld82_2) <| .cons (.loadP (lt1 rfl) (.tmp rfl) one4 rfl rfl rfl) <| .cons (.move (lt1 rfl) (.tmp rfl)) <| .guard (j := 4) (dj := 13) rfl (lt1 rfl) rfl (lt1 rfl) (fun hg => .move (lt1 rfl) (.tmp rfl)) <| .guard (j := 4) (dj := 13) rfl (lt1 rfl) rfl (lt1 rfl) (fun hg => .gtr (lt1 rfl) (.gd hg (.tmp rfl)) (.const _ _ _)) <| .cons (.pickOr (lt1 rfl) (.tmp rfl) (.const _ _ _) (.tmp rfl)) <| ARun.nil _ _ _) ?_
  refine AWP.vc (s' := ⟨[(0, .ptr 1 0), (2, .sc (.int .i64 (IntKind.wrap .i64 y_1.1))), (16, .sc (.bool (y_1.2.2.2 || (decide ((8 : Int) < (IntKind.wrap .i64 y_1.1))))))], [(2, ⟨82, false, [.rd β1 y_1.2.1.length (y_1.2.1.flatMap enc8), .sc (.int .i64 y_1.2.2.1), .sc (.bool y_1.2.2.2)]⟩), (1, ⟨39, false, [.ptr 2 0]⟩)]⟩) (VC.sub (.c rfl <| .c rfl <| .c rfl <| .n _) (.c rfl <| .c rfl <| .n _)) ?_
  refine AWP.cond (.tmp rfl) (fun hc => ?_) (fun hc => ?_)
  · have h := iteT hc h
    refine AWP.seq ?_
    refine AWP.region (.cons (.loadP (lt1 rfl) (.tmp rfl) one39 rfl rfl rfl) <| .cons (.nilCheck (lt1 rfl) (.tmp rfl) trivial) <| .cons (.fieldP (lt1 rfl) (.tmp rfl) fld82_2) <| .cons (.storeP (.tmp rfl) (.const _ _ _) sz4 rfl (lt1 rfl) rfl (by intro h; cases h) rfl) <| ARun.nil _ _ _) ?_
    refine AWP.vc (s' := ⟨[], [(2, ⟨82, false, [.rd β1 y_1.2.1.length (y_1.2.1.flatMap enc8), .sc (.int .i64 y_1.2.2.1), .sc (.bool true)]⟩), (1, ⟨39, false, [.ptr 2 0]⟩)]⟩) (VC.sub (.n _) (.c rfl <| .c rfl <| .n _)) ?_
    refine AWP.seq ?_
    refine AWP.region (.cons (.assign (lt1 rfl) (.const _ _ _)) <| ARun.nil _ _ _) ?_
    refine AWP.ret ?_
    obtain rfl := Option.some.inj h
    refine retJ (Res.vc (s' := ⟨[(1, .sc (.int .i64 (0 : Int)))], [(1, ⟨39, false, [.ptr 2 0]⟩), (2, ⟨82, false, [.rd β1 y_1.2.1.length (y_1.2.1.flatMap enc8), .sc (.int .i64 y_1.2.2.1), .sc (.bool true)]⟩)]⟩) (VC.sub (.c rfl <| .n _) (.c rfl <| .c rfl <| .n _)) ?_)
    refine Res.sub (H := [(1, ⟨39, false, [.ptr 2 0]⟩), (2, ⟨82, false, [.rd β1 y_1.2.1.length (y_1.2.1.flatMap enc8), .sc (.int .i64 y_1.2.2.1), .sc (.bool true)]⟩)]) (.c rfl <| .c rfl <| .n _) ?_
    exact Res.of rfl (.cons (.tmp rfl) (.nil)) rfl rfl
  · have h := iteF hc h
    refine AWP.skip ?_
    refine AWP.seq ?_
    refine AWP.region (.cons (.assign (lt1 rfl) (.const _ _ _)) <| ARun.nil _ _ _) ?_
    refine AWP.vc (s' := ⟨[(0, .ptr 1 0), (2, .sc (.int .i64 (IntKind.wrap .i64 y_1.1))), (3, .sc (.int .i64 (0 : Int)))], [(2, ⟨82, false, [.rd β1 y_1.2.1.length (y_1.2.1.flatMap enc8), .sc (.int .i64 y_1.2.2.1), .sc (.bool y_1.2.2.2)]⟩), (1, ⟨39, false, [.ptr 2 0]⟩)]⟩) (VC.sub (.c rfl <| .c rfl <| .c rfl <| .n _) (.c rfl <| .c rfl <| .n _)) ?_
    refine AWP.seq ?_
    refine AWP.seq ?_
    refine AWP.region (.cons (.move (lt1 rfl) (.tmp rfl)) <| .cons (.move (lt1 rfl) (.const _ _ _)) <| ARun.nil _ _ _) ?_
    refine AWP.vc (s' := ⟨[(0, .ptr 1 0), (2, .sc (.int .i64 (IntKind.wrap .i64 y_1.1))), (3, .sc (.int .i64 (0 : Int))), (20, .sc (.int .i64 (IntKind.wrap .i64 y_1.1))), (21, .sc (.int .i64 (0 : Int)))], [(2, ⟨82, false, [.rd β1 y_1.2.1.length (y_1.2.1.flatMap enc8), .sc (.int .i64 y_1.2.2.1), .sc (.bool y_1.2.2.2)]⟩), (1, ⟨39, false, [.ptr 2 0]⟩)]⟩) (VC.sub (.c rfl <| .c rfl <| .c rfl <| .c rfl <| .c rfl <| .n _) (.c rfl <| .c rfl <| .n _)) ?_
    refine AWP.joinB' (S := fun p_24 : Int × (List UInt8) × Int × Bool => ⟨[(0, .ptr 1 0), (2, .sc (.int .i64 (IntKind.wrap .i64 y_1.1))), (3, .sc (.int .i64 p_24.1))], [(1, ⟨39, false, [.ptr 2 0]⟩), (2, ⟨82, false, [.rd β1 p_24.2.1.length (p_24.2.1.flatMap enc8), .sc (.int .i64 p_24.2.2.1), .sc (.bool p_24.2.2.2)]⟩)]⟩) h (fun p_24 h => ?_) (fun k_25 h => ?_)
    · refine AWP.seq ?_
      refine AWP.seq ?_
      obtain ⟨y_26, hy_26, h⟩ := bindS h
      refine AWP.region (.cons (.loadP (lt1 rfl) (.tmp rfl) one39 rfl rfl rfl) <| .cons (.nilCheck (lt1 rfl) (.tmp rfl) trivial) <| .cons (.fieldP (lt1 rfl) (.tmp rfl) fld82_2) <| .cons (.loadP (lt1 rfl) (.tmp rfl) one4 rfl rfl rfl) <| .cons (.not (lt1 rfl) (.tmp rfl)) <| .cons (.move (lt1 rfl) (.tmp rfl)) <| .guard (j := 5) (dj := 42) rfl (lt1 rfl) rfl (lt1 rfl) (fun hg => .move (lt1 rfl) (.tmp rfl)) <| .guard (j := 5) (dj := 42) rfl (lt1 rfl) rfl (lt1 rfl) (fun hg => .call0 (bw := false) (lt1 rfl) (c12x2 n p_24.1 (gdB hy_26 hg)) (.cons (.const _ _ _) (.ren rfl) (.cons (.gd hg (.tmp rfl)) (.ren rfl) (.nil))) rfl) <| .guard (j := 5) (dj := 42) rfl (lt1 rfl) rfl (lt1 rfl) (fun hg => .lenRd (lt1 rfl) (.gd hg (.tmp rfl)) Try.underlying33) <| .guard (j := 5) (dj := 42) rfl (lt1 rfl) rfl (lt1 rfl) (fun hg => .move (lt1 rfl) (.tmp rfl)) <| .guard (j := 5) (dj := 42) rfl (lt1 rfl) rfl (lt1 rfl) (fun hg => .add (lt1 rfl) (.gd hg (.tmp rfl)) (.const _ _ _)) <| .guard (j := 5) (dj := 42) rfl (lt1 rfl) rfl (lt1 rfl) (fun hg => .neq (lt1 rfl) (.gd hg (.tmp rfl)) (.gd hg (.tmp rfl))) <| .cons (.pickAnd (lt1 rfl) (.tmp rfl) (.tmp rfl) (.const _ _ _)) <| ARun.nil _ _ _) ?_
      refine AWP.vc (s' := ⟨[(0, .ptr 1 0), (3, .sc (.int .i64 p_24.1)), (49, .sc (.bool ((!p_24.2.2.2) && (!decide ((y_26.length : Int) = (IntKind.wrap .i64 ((IntKind.wrap .i64 y_1.1) + (1 : Int))))))))], [(1, ⟨39, false, [.ptr 2 0]⟩), (2, ⟨82, false, [.rd β1 p_24.2.1.length (p_24.2.1.flatMap enc8), .sc (.int .i64 p_24.2.2.1), .sc (.bool p_24.2.2.2)]⟩)]⟩) (VC.sub (.c rfl <| .c rfl <| .c rfl <| .n _) (.c rfl <| .c rfl <| .n _)) ?_
      refine AWP.join' (S := fun p_27 : Bool => ⟨[(3, .sc (.int .i64 p_24.1))], [(1, ⟨39, false, [.ptr 2 0]⟩), (2, ⟨82, false, [.rd β1 p_24.2.1.length (p_24.2.1.flatMap enc8), .sc (.int .i64 p_24.2.2.1), .sc (.bool p_27)]⟩)]⟩) h (fun p_27 h => ?_) (fun k_28 h => ?_)
      · refine AWP.seq ?_
        refine AWP.region (.cons (.move (lt1 rfl) (.tmp rfl)) <| .cons (.assign (lt1 rfl) (.tmp rfl)) <| ARun.nil _ _ _) ?_
        refine AWP.ret ?_
        obtain rfl := Option.some.inj h
        refine retJ (Res.vc (s' := ⟨[(1, .sc (.int .i64 p_24.1))], [(1, ⟨39, false, [.ptr 2 0]⟩), (2, ⟨82, false, [.rd β1 p_24.2.1.length (p_24.2.1.flatMap enc8), .sc (.int .i64 p_24.2.2.1), .sc (.bool p_27)]⟩)]⟩) (VC.sub (.c rfl <| .n _) (.c rfl <| .c rfl <| .n _)) ?_)
        refine Res.sub (H := [(1, ⟨39, false, [.ptr 2 0]⟩), (2, ⟨82, false, [.rd β1 p_24.2.1.length (p_24.2.1.flatMap enc8), .sc (.int .i64 p_24.2.2.1), .sc (.bool p_27)]⟩)]) (.c rfl <| .c rfl <| .n _) ?_
        exact Res.of rfl (.cons (.tmp rfl) (.nil)) rfl rfl
      · refine AWP.cond (.tmp rfl) (fun hc => ?_) (fun hc => ?_)
        · have h := iteT hc h
          refine AWP.region (.cons (.loadP (lt1 rfl) (.tmp rfl) one39 rfl rfl rfl) <| .cons (.nilCheck (lt1 rfl) (.tmp rfl) trivial) <| .cons (.fieldP (lt1 rfl) (.tmp rfl) fld82_2) <| .cons (.storeP (.tmp rfl) (.const _ _ _) sz4 rfl (lt1 rfl) rfl (by intro h; cases h) rfl) <| ARun.nil _ _ _) ?_
          exact endJ true h (VC.sub (.c rfl <| .n _) (.c rfl <| .c rfl <| .n _))
        · have h := iteF hc h
          refine AWP.skip ?_
          exact endJ p_24.2.2.2 h (VC.sub (.c rfl <| .n _) (.c rfl <| .c rfl <| .n _))
    · refine AWP.vc (s' := ⟨[(0, .ptr 1 0), (2, .sc (.int .i64 (IntKind.wrap .i64 y_1.1))), (3, .sc (.int .i64 (0 : Int))), (20, .sc (.int .i64 (IntKind.wrap .i64 y_1.1))), (21, .sc (.int .i64 (0 : Int)))], [(1, ⟨39, false, [.ptr 2 0]⟩), (2, ⟨82, false, [.rd β1 y_1.2.1.length (y_1.2.1.flatMap enc8), .sc (.int .i64 y_1.2.2.1), .sc (.bool y_1.2.2.2)]⟩)]⟩) (VC.sub (.c rfl <| .c rfl <| .c rfl <| .c rfl <| .c rfl <| .n _) (.c rfl <| .c rfl <| .n _)) ?_
      refine AWP.loopM (S := fun x_16 : Int × Int × (List UInt8) × Int × Bool => ⟨[(0, .ptr 1 0), (2, .sc (.int .i64 (IntKind.wrap .i64 y_1.1))), (3, .sc (.int .i64 x_16.1)), (20, .sc (.int .i64 (IntKind.wrap .i64 y_1.1))), (21, .sc (.int .i64 x_16.2.1))], [(1, ⟨39, false, [.ptr 2 0]⟩), (2, ⟨82, false, [.rd β1 x_16.2.2.1.length (x_16.2.2.1.flatMap enc8), .sc (.int .i64 x_16.2.2.2.1), .sc (.bool x_16.2.2.2.2)]⟩)]⟩) (x := ((0 : Int), (0 : Int), y_1.2.1, y_1.2.2.1, y_1.2.2.2)) (fun nx_17 x_16 h => ?_) h
      unfold m44_L1 at h
      refine AWP.seq ?_
      refine AWP.region (.cons (.lss (lt1 rfl) (.tmp rfl) (.tmp rfl)) <| ARun.nil _ _ _) ?_
      refine AWP.vc (s' := ⟨[(0, .ptr 1 0), (2, .sc (.int .i64 (IntKind.wrap .i64 y_1.1))), (3, .sc (.int .i64 x_16.1)), (20, .sc (.int .i64 (IntKind.wrap .i64 y_1.1))), (21, .sc (.int .i64 x_16.2.1)), (22, .sc (.bool (decide (x_16.2.1 < (IntKind.wrap .i64 y_1.1)))))], [(1, ⟨39, false, [.ptr 2 0]⟩), (2, ⟨82, false, [.rd β1 x_16.2.2.1.length (x_16.2.2.1.flatMap enc8), .sc (.int .i64 x_16.2.2.2.1), .sc (.bool x_16.2.2.2.2)]⟩)]⟩) (VC.sub (.c rfl <| .c rfl <| .c rfl <| .c rfl <| .c rfl <| .c rfl <| .n _) (.c rfl <| .c rfl <| .n _)) ?_
      refine AWP.seq ?_
      refine AWP.cond (.tmp rfl) (fun hc => ?_) (fun hc => ?_)
      · have h := iteT hc h
        refine AWP.skip ?_
        refine AWP.seq ?_
        refine AWP.block ?_
        refine AWP.seq ?_
        refine AWP.region (.cons (.move (lt1 rfl) (.tmp rfl)) <| .cons (.assign (lt1 rfl) (.tmp rfl)) <| ARun.nil _ _ _) ?_
        refine AWP.vc (s' := ⟨[(0, .ptr 1 0), (2, .sc (.int .i64 (IntKind.wrap .i64 y_1.1))), (3, .sc (.int .i64 x_16.1)), (20, .sc (.int .i64 (IntKind.wrap .i64 y_1.1))), (21, .sc (.int .i64 x_16.2.1)), (4, .sc (.int .i64 x_16.2.1))], [(1, ⟨39, false, [.ptr 2 0]⟩), (2, ⟨82, false, [.rd β1 x_16.2.2.1.length (x_16.2.2.1.flatMap enc8), .sc (.int .i64 x_16.2.2.2.1), .sc (.bool x_16.2.2.2.2)]⟩)]⟩) (VC.sub (.c rfl <| .c rfl <| .c rfl <| .c rfl <| .c rfl <| .c rfl <| .n _) (.c rfl <| .c rfl <| .n _)) ?_
        refine AWP.seq ?_
        obtain ⟨y_18, hy_18, h⟩ := bindS h
        refine AWP.region (.cons (.loadP (lt1 rfl) (.tmp rfl) one39 rfl rfl rfl) <| .cons (.call (σ := fun _ => 2) (bw := false) (lt1 rfl) (c45 (β1 := β1) n x_16.2.2.1 x_16.2.2.2.1 x_16.2.2.2.2 hy_18) (.cons (.tmp rfl) (.ren rfl) (.nil)) (CallOk.mk' (.c rfl (.n)) rfl)) <| .cons (.assign (lt1 rfl) (.tmp rfl)) <| ARun.nil _ _ _) ?_
        refine AWP.vc (s' := ⟨[(0, .ptr 1 0), (2, .sc (.int .i64 (IntKind.wrap .i64 y_1.1))), (3, .sc (.int .i64 x_16.1)), (20, .sc (.int .i64 (IntKind.wrap .i64 y_1.1))), (21, .sc (.int .i64 x_16.2.1)), (4, .sc (.int .i64 x_16.2.1)), (5, .sc (.int .u8 y_18.1))], [(2, ⟨82, false, [.rd β1 y_18.2.1.length (y_18.2.1.flatMap enc8), .sc (.int .i64 y_18.2.2.1), .sc (.bool y_18.2.2.2)]⟩), (1, ⟨39, false, [.ptr 2 0]⟩)]⟩) (VC.sub (.c rfl <| .c rfl <| .c rfl <| .c rfl <| .c rfl <| .c rfl <| .c rfl <| .n _) (.c rfl <| .c rfl <| .n _)) ?_
        refine AWP.seq ?_
        refine AWP.region (.cons (.move (lt1 rfl) (.tmp rfl)) <| .cons (.eql (lt1 rfl) (.tmp rfl) (.const _ _ _)) <| ARun.nil _ _ _) ?_
        refine AWP.vc (s' := ⟨[(0, .ptr 1 0), (2, .sc (.int .i64 (IntKind.wrap .i64 y_1.1))), (3, .sc (.int .i64 x_16.1)), (20, .sc (.int .i64 (IntKind.wrap .i64 y_1.1))), (21, .sc (.int .i64 x_16.2.1)), (5, .sc (.int .u8 y_18.1)), (27, .sc (.bool (decide (x_16.2.1 = (0 : Int)))))], [(2, ⟨82, false, [.rd β1 y_18.2.1.length (y_18.2.1.flatMap enc8), .sc (.int .i64 y_18.2.2.1), .sc (.bool y_18.2.2.2)]⟩), (1, ⟨39, false, [.ptr 2 0]⟩)]⟩) (VC.sub (.c rfl <| .c rfl <| .c rfl <| .c rfl <| .c rfl <| .c rfl <| .c rfl <| .n _) (.c rfl <| .c rfl <| .n _)) ?_
        refine AWP.join' (S := fun p_21 : Int => ⟨[(0, .ptr 1 0), (2, .sc (.int .i64 (IntKind.wrap .i64 y_1.1))), (3, .sc (.int .i64 p_21)), (20, .sc (.int .i64 (IntKind.wrap .i64 y_1.1))), (21, .sc (.int .i64 x_16.2.1))], [(1, ⟨39, false, [.ptr 2 0]⟩), (2, ⟨82, false, [.rd β1 y_18.2.1.length (y_18.2.1.flatMap enc8), .sc (.int .i64 y_18.2.2.1), .sc (.bool y_18.2.2.2)]⟩)]⟩) h (fun p_21 h => ?_) (fun k_22 h => ?_)
        · obtain ⟨t21_23, ht21_23, h⟩ := letS h
          refine AWP.region (.cons (.add (lt1 rfl) (.tmp rfl) (.const _ _ _)) <| .cons (.move (lt1 rfl) (.tmp rfl)) <| ARun.nil _ _ _) ?_
          exact endJ (p_21, t21_23, y_18.2.1, y_18.2.2.1, y_18.2.2.2) h (by subst ht21_23; exact VC.sub (.c rfl <| .c rfl <| .c rfl <| .c rfl <| .c rfl <| .n _) (.c rfl <| .c rfl <| .n _))
        · refine AWP.cond (.tmp rfl) (fun hc => ?_) (fun hc => ?_)
          · have h := iteT hc h
            obtain ⟨t3_19, ht3_19, h⟩ := letS h
            refine AWP.region (.cons (.move (lt1 rfl) (.tmp rfl)) <| .cons (.conv (lt1 rfl) (.tmp rfl) Try.underlying5 Try.underlying85) <| .cons (.conv (lt1 rfl) (.tmp rfl) Try.underlying85 Try.underlying3) <| .cons (.assign (lt1 rfl) (.tmp rfl)) <| ARun.nil _ _ _) ?_
            exact endJ t3_19 h (by subst ht3_19; exact VC.sub (.c rfl <| .c rfl <| .c rfl <| .c rfl <| .c rfl <| .n _) (.c rfl <| .c rfl <| .n _))
          · have h := iteF hc h
            obtain ⟨t3_20, ht3_20, h⟩ := letS h
            refine AWP.region (.cons (.move (lt1 rfl) (.tmp rfl)) <| .cons (.shl (lt1 rfl) (.tmp rfl) (.const _ _ _) (by decide)) <| .cons (.move (lt1 rfl) (.tmp rfl)) <| .cons (.conv (lt1 rfl) (.tmp rfl) Try.underlying5 Try.underlying3) <| .cons (.bor (lt1 rfl) (.tmp rfl) (.tmp rfl)) <| .cons (.assign (lt1 rfl) (.tmp rfl)) <| ARun.nil _ _ _) ?_
            exact endJ t3_20 h (by subst ht3_20; exact VC.sub (.c rfl <| .c rfl <| .c rfl <| .c rfl <| .c rfl <| .n _) (.c rfl <| .c rfl <| .n _))
      · have h := iteF hc h
        refine AWP.exit ?_
        exact endJ (x_16.1, x_16.2.2.1, x_16.2.2.2.1, x_16.2.2.2.2) h (VC.sub (.c rfl <| .c rfl <| .c rfl <| .n _) (.c rfl <| .c rfl <| .n _))
theorem c43 {β1 : Bool} (n : Nat) (a0_b0 : (List UInt8)) (a0_b1 : Int) (a0_b2 : Bool) {r : (Int × (List UInt8) × Int × Bool)} (h : m43 n a0_b0 a0_b1 a0_b2 = some r) : Spec Try.prog 43 [1, 2] [.ptr 1 0, .clo (.func 44) [] [.ptr 2 0]] [(1, ⟨82, false, [.rd β1 a0_b0.length (a0_b0.flatMap enc8), .sc (.int .i64 a0_b1), .sc (.bool a0_b2)]⟩), (2, ⟨39, false, [.ptr 1 0]⟩)] (.sc (.int .i64 r.1)) [(1, ⟨82, false, [.rd β1 r.2.1.length (r.2.1.flatMap enc8), .sc (.int .i64 r.2.2.1), .sc (.bool r.2.2.2)]⟩), (2, ⟨39, false, [.ptr 1 0]⟩)] := by
  refine Spec.of (fn := Try.f43) Try.func43 Try.ntmps43 rfl rfl (le1 rfl) (fun w0 Zs Zb T0 ι0 => ?_)
  unfold m43 at h
  refine AWP.seq ?_
  refine AWP.region (.cons (.assign (lt1 rfl) (.const _ _ _)) <| ARun.nil _ _ _) ?_
  refine AWP.vc (s' := ⟨[(0, .ptr 1 0), (1, .clo (.func 44) [] [.ptr 2 0])], [(1, ⟨82, false, [.rd β1 a0_b0.length (a0_b0.flatMap enc8), .sc (.int .i64 a0_b1), .sc (.bool a0_b2)]⟩), (2, ⟨39, false, [.ptr 1 0]⟩)]⟩) (VC.sub (.c rfl <| .c rfl <| .n _) (.c rfl <| .c rfl <| .n _)) ?_
  refine AWP.seq ?_
  refine AWP.region (.cons (.assign (lt1 rfl) (.const _ _ _)) <| ARun.nil _ _ _) ?_
  refine AWP.vc (s' := ⟨[(0, .ptr 1 0), (1, .clo (.func 44) [] [.ptr 2 0]), (5, .sc (.int .i64 (0 : Int)))], [(1, ⟨82, false, [.rd β1 a0_b0.length (a0_b0.flatMap enc8), .sc (.int .i64 a0_b1), .sc (.bool a0_b2)]⟩), (2, ⟨39, false, [.ptr 1 0]⟩)]⟩) (VC.sub (.c rfl <| .c rfl <| .c rfl <| .n _) (.c rfl <| .c rfl <| .n _)) ?_
  refine AWP.seq ?_
  refine AWP.seq ?_
  refine AWP.region (.cons (.move (lt1 rfl) (.tmp rfl)) <| .cons (.ptrNil0 (lt1 rfl) (.tmp rfl) Try.underlying39) <| .cons (.move (lt1 rfl) (.tmp rfl)) <| .guardT (j := 2) (dj := 10) rfl (lt1 rfl) rfl rfl (.move (lt1 rfl) (.tmp rfl)) <| .guardT (j := 2) (dj := 10) rfl (lt1 rfl) rfl rfl (.nilCheck (lt1 rfl) (.tmp rfl) trivial) <| .guardT (j := 2) (dj := 10) rfl (lt1 rfl) rfl rfl (.fieldP (lt1 rfl) (.tmp rfl) fld82_2) <| .guardT (j := 2) (dj := 10) rfl (lt1 rfl) rfl rfl (.loadP (lt1 rfl) (.tmp rfl) one4 rfl rfl rfl) <| .cons (.pickF (lt1 rfl) (.tmp rfl) rfl (.tmp rfl)) <| ARun.nil _ _ _) ?_
  refine AWP.vc (s' := ⟨[(0, .ptr 1 0), (1, .clo (.func 44) [] [.ptr 2 0]), (5, .sc (.int .i64 (0 : Int))), (15, .sc (.bool a0_b2))], [(1, ⟨82, false, [.rd β1 a0_b0.length (a0_b0.flatMap enc8), .sc (.int .i64 a0_b1), .sc (.bool a0_b2)]⟩), (2, ⟨39, false, [.ptr 1 0]⟩)]⟩) (VC.sub (.c rfl <| .c rfl <| .c rfl <| .c rfl <| .n _) (.c rfl <| .c rfl <| .n _)) ?_
  refine AWP.cond (.tmp rfl) (fun hc => ?_) (fun hc => ?_)
  · have h := iteT hc h
    refine AWP.seq ?_
    refine AWP.region (.cons (.move (lt1 rfl) (.tmp rfl)) <| .cons (.assign (lt1 rfl) (.tmp rfl)) <| ARun.nil _ _ _) ?_
    refine AWP.ret ?_
    obtain rfl := Option.some.inj h
    refine retJ (Res.vc (s' := ⟨[(4, .sc (.int .i64 (0 : Int)))], [(1, ⟨82, false, [.rd β1 a0_b0.length (a0_b0.flatMap enc8), .sc (.int .i64 a0_b1), .sc (.bool a0_b2)]⟩), (2, ⟨39, false, [.ptr 1 0]⟩)]⟩) (VC.sub (.c rfl <| .n _) (.c rfl <| .c rfl <| .n _)) ?_)
    refine Res.sub (H := [(1, ⟨82, false, [.rd β1 a0_b0.length (a0_b0.flatMap enc8), .sc (.int .i64 a0_b1), .sc (.bool a0_b2)]⟩), (2, ⟨39, false, [.ptr 1 0]⟩)]) (.c rfl <| .c rfl <| .n _) ?_
    exact Res.of rfl (.cons (.tmp rfl) (.nil)) rfl rfl
  · have h := iteF hc h
    refine AWP.skip ?_
    refine AWP.seq ?_
    refine AWP.region (.cons (.move (lt1 rfl) (.tmp rfl)) <| .cons (.nilCheck (lt1 rfl) (.tmp rfl) trivial) <| .cons (.fieldP (lt1 rfl) (.tmp rfl) fld82_1) <| .cons (.loadP (lt1 rfl) (.tmp rfl) one3 rfl rfl rfl) <| .cons (.assign (lt1 rfl) (.tmp rfl)) <| ARun.nil _ _ _) ?_
    refine AWP.vc (s' := ⟨[(0, .ptr 1 0), (1, .clo (.func 44) [] [.ptr 2 0]), (5, .sc (.int .i64 (0 : Int))), (6, .sc (.int .i64 a0_b1))], [(1, ⟨82, false, [.rd β1 a0_b0.length (a0_b0.flatMap enc8), .sc (.int .i64 a0_b1), .sc (.bool a0_b2)]⟩), (2, ⟨39, false, [.ptr 1 0]⟩)]⟩) (VC.sub (.c rfl <| .c rfl <| .c rfl <| .c rfl <| .n _) (.c rfl <| .c rfl <| .n _)) ?_
    refine AWP.seq ?_
    obtain ⟨y_1, hy_1, h⟩ := bindS h
    refine AWP.region (.cons (.move (lt1 rfl) (.tmp rfl)) <| .cons (.callV (us' := []) (avs := []) (cs' := [.ptr 1 0]) (σ := sgT [(1, 2), (2, 1)]) (bw := false) (lt1 rfl) (.tmp rfl) (c44 (β1 := β1) n a0_b0 a0_b1 a0_b2 hy_1) (.nil) (.nil) (.cons (.ren rfl) (.nil)) (CallOk.mk' (.c rfl (.c rfl (.n))) rfl) (fun _ h => by cases h)) <| .cons (.assign (lt1 rfl) (.tmp rfl)) <| ARun.nil _ _ _) ?_
    refine AWP.vc (s' := ⟨[(0, .ptr 1 0), (5, .sc (.int .i64 (0 : Int))), (6, .sc (.int .i64 a0_b1)), (7, .sc (.int .i64 y_1.1))], [(2, ⟨39, false, [.ptr 1 0]⟩), (1, ⟨82, false, [.rd β1 y_1.2.1.length (y_1.2.1.flatMap enc8), .sc (.int .i64 y_1.2.2.1), .sc (.bool y_1.2.2.2)]⟩)]⟩) (VC.sub (.c rfl <| .c rfl <| .c rfl <| .c rfl <| .n _) (.c rfl <| .c rfl <| .n _)) ?_
    refine AWP.seq ?_
    refine AWP.seq ?_
    refine AWP.region (.cons (.move (lt1 rfl) (.tmp rfl)) <| .cons (.nilCheck (lt1 rfl) (.tmp rfl) trivial) <| .cons (.fieldP (lt1 rfl) (.tmp rfl) fld82_2) <| .cons (.loadP (lt1 rfl) (.tmp rfl) one4 rfl rfl rfl) <| ARun.nil _ _ _) ?_
    refine AWP.vc (s' := ⟨[(0, .ptr 1 0), (5, .sc (.int .i64 (0 : Int))), (6, .sc (.int .i64 a0_b1)), (7, .sc (.int .i64 y_1.1)), (26, .sc (.bool y_1.2.2.2))], [(2, ⟨39, false, [.ptr 1 0]⟩), (1, ⟨82, false, [.rd β1 y_1.2.1.length (y_1.2.1.flatMap enc8), .sc (.int .i64 y_1.2.2.1), .sc (.bool y_1.2.2.2)]⟩)]⟩) (VC.sub (.c rfl <| .c rfl <| .c rfl <| .c rfl <| .c rfl <| .n _) (.c rfl <| .c rfl <| .n _)) ?_
    refine AWP.cond (.tmp rfl) (fun hc => ?_) (fun hc => ?_)
    · have h := iteT hc h
      refine AWP.seq ?_
      refine AWP.region (.cons (.move (lt1 rfl) (.tmp rfl)) <| .cons (.move (lt1 rfl) (.tmp rfl)) <| .cons (.nilCheck (lt1 rfl) (.tmp rfl) trivial) <| .cons (.fieldP (lt1 rfl) (.tmp rfl) fld82_1) <| .cons (.storeP (.tmp rfl) (.tmp rfl) sz3 rfl (lt1 rfl) rfl (by intro h; cases h) rfl) <| ARun.nil _ _ _) ?_
      refine AWP.vc (s' := ⟨[(5, .sc (.int .i64 (0 : Int)))], [(2, ⟨39, false, [.ptr 1 0]⟩), (1, ⟨82, false, [.rd β1 y_1.2.1.length (y_1.2.1.flatMap enc8), .sc (.int .i64 a0_b1), .sc (.bool y_1.2.2.2)]⟩)]⟩) (VC.sub (.c rfl <| .n _) (.c rfl <| .c rfl <| .n _)) ?_
      refine AWP.seq ?_
      refine AWP.region (.cons (.move (lt1 rfl) (.tmp rfl)) <| .cons (.assign (lt1 rfl) (.tmp rfl)) <| ARun.nil _ _ _) ?_
      refine AWP.ret ?_
      obtain rfl := Option.some.inj h
      refine retJ (Res.vc (s' := ⟨[(4, .sc (.int .i64 (0 : Int)))], [(1, ⟨82, false, [.rd β1 y_1.2.1.length (y_1.2.1.flatMap enc8), .sc (.int .i64 a0_b1), .sc (.bool y_1.2.2.2)]⟩), (2, ⟨39, false, [.ptr 1 0]⟩)]⟩) (VC.sub (.c rfl <| .n _) (.c rfl <| .c rfl <| .n _)) ?_)
      refine Res.sub (H := [(1, ⟨82, false, [.rd β1 y_1.2.1.length (y_1.2.1.flatMap enc8), .sc (.int .i64 a0_b1), .sc (.bool y_1.2.2.2)]⟩), (2, ⟨39, false, [.ptr 1 0]⟩)]) (.c rfl <| .c rfl <| .n _) ?_
      exact Res.of rfl (.cons (.tmp rfl) (.nil)) rfl rfl
    · have h := iteF hc h
      refine AWP.skip ?_
      refine AWP.seq ?_
      refine AWP.region (.cons (.move (lt1 rfl) (.tmp rfl)) <| .cons (.assign (lt1 rfl) (.tmp rfl)) <| ARun.nil _ _ _) ?_
      refine AWP.ret ?_
      obtain rfl := Option.some.inj h
      refine retJ (Res.vc (s' := ⟨[(4, .sc (.int .i64 y_1.1))], [(1, ⟨82, false, [.rd β1 y_1.2.1.length (y_1.2.1.flatMap enc8), .sc (.int .i64 y_1.2.2.1), .sc (.bool y_1.2.2.2)]⟩), (2, ⟨39, false, [.ptr 1 0]⟩)]⟩) (VC.sub (.c rfl <| .n _) (.c rfl <| .c rfl <| .n _)) ?_)
      refine Res.sub (H := [(1, ⟨82, false, [.rd β1 y_1.2.1.length (y_1.2.1.flatMap enc8), .sc (.int .i64 y_1.2.2.1), .sc (.bool y_1.2.2.2)]⟩), (2, ⟨39, false, [.ptr 1 0]⟩)]) (.c rfl <| .c rfl <| .n _) ?_
      exact Res.of rfl (.cons (.tmp rfl) (.nil)) rfl rfl
theorem c17 {β1 : Bool} (n : Nat) (a0_b0 : (List UInt8)) (a0_b1 : Int) (a0_b2 : Bool) {r : (Int × (List UInt8) × Int × Bool)} (h : m17 n a0_b0 a0_b1 a0_b2 = some r) : Spec Try.prog 17 [1] [.ptr 1 0] [(1, ⟨82, false, [.rd β1 a0_b0.length (a0_b0.flatMap enc8), .sc (.int .i64 a0_b1), .sc (.bool a0_b2)]⟩)] (.sc (.int .i64 r.1)) [(1, ⟨82, false, [.rd β1 r.2.1.length (r.2.1.flatMap enc8), .sc (.int .i64 r.2.2.1), .sc (.bool r.2.2.2)]⟩)] := by
  refine Spec.of (fn := Try.f17) Try.func17 Try.ntmps17 rfl rfl (le1 rfl) (fun w0 Zs Zb T0 ι0 => ?_)
  unfold m17 at h
  refine AWP.seq ?_
  refine AWP.region (.cons (.box (t := 2) (n := 1) (lt1 rfl) (nm rfl) (.tmp rfl) (by first | exact ⟨rfl, rfl⟩ | rfl) rfl) <| .cons (.assign (lt1 rfl) (.const _ _ _)) <| ARun.nil _ _ _) ?_
  refine AWP.vc (s' := ⟨[(1, .ptr 2 0)], [(2, ⟨39, false, [.ptr 1 0]⟩), (1, ⟨82, false, [.rd β1 a0_b0.length (a0_b0.flatMap enc8), .sc (.int .i64 a0_b1), .sc (.bool a0_b2)]⟩)]⟩) (VC.sub (.c rfl <| .n _) (.c rfl <| .c rfl <| .n _)) ?_
  refine AWP.seq ?_
  obtain ⟨y_1, hy_1, h⟩ := bindS h
  refine AWP.region (.cons (.loadP (lt1 rfl) (.tmp rfl) one39 rfl rfl rfl) <| .cons (.makeFunc (lt1 rfl) (.nil) (.cons (.tmp rfl) (.nil))) <| .cons (.call (σ := sgT [(1, 1), (2, 2)]) (bw := false) (lt1 rfl) (c43 (β1 := β1) n a0_b0 a0_b1 a0_b2 hy_1) (.cons (.tmp rfl) (.ren rfl) (.cons (.tmp rfl) (.ren rfl) (.nil))) (CallOk.mk' (.c rfl (.c rfl (.n))) rfl)) <| .cons (.assign (lt1 rfl) (.tmp rfl)) <| ARun.nil _ _ _) ?_
  refine AWP.ret ?_
  obtain rfl := Option.some.inj h
  refine retJ (Res.vc (s' := ⟨[(2, .sc (.int .i64 y_1.1))], [(1, ⟨82, false, [.rd β1 y_1.2.1.length (y_1.2.1.flatMap enc8), .sc (.int .i64 y_1.2.2.1), .sc (.bool y_1.2.2.2)]⟩)]⟩) (VC.sub (.c rfl <| .n _) (.c rfl <| .n _)) ?_)
  refine Res.sub (H := [(1, ⟨82, false, [.rd β1 y_1.2.1.length (y_1.2.1.flatMap enc8), .sc (.int .i64 y_1.2.2.1), .sc (.bool y_1.2.2.2)]⟩)]) (.c rfl <| .n _) ?_
  exact Res.of rfl (.cons (.tmp rfl) (.nil)) rfl rfl
theorem c18 {β1 : Bool} (n : Nat) (a0_b0 : (List UInt8)) (a0_b1 : Int) (a0_b2 : Bool) {r : Int} (h : m18 n a0_b0 a0_b1 a0_b2 = some r) : Spec Try.prog 18 [1] [.ptr 1 0] [(1, ⟨82, false, [.rd β1 a0_b0.length (a0_b0.flatMap enc8), .sc (.int .i64 a0_b1), .sc (.bool a0_b2)]⟩)] (.sc (.int .i64 r)) [(1, ⟨82, false, [.rd β1 a0_b0.length (a0_b0.flatMap enc8), .sc (.int .i64 a0_b1), .sc (.bool a0_b2)]⟩)] := by
  refine Spec.of (fn := Try.f18) Try.func18 Try.ntmps18 rfl rfl (le1 rfl) (fun w0 Zs Zb T0 ι0 => ?_)
  unfold m18 at h
  refine AWP.seq ?_
  refine AWP.region (.cons (.assign (lt1 rfl) (.const _ _ _)) <| ARun.nil _ _ _) ?_
  refine AWP.vc (s' := ⟨[(0, .ptr 1 0)], [(1, ⟨82, false, [.rd β1 a0_b0.length (a0_b0.flatMap enc8), .sc (.int .i64 a0_b1), .sc (.bool a0_b2)]⟩)]⟩) (VC.sub (.c rfl <| .n _) (.c rfl <| .n _)) ?_
  refine AWP.seq ?_
  refine AWP.block ?_
  refine AWP.seq ?_
  refine AWP.region (.cons (.move (lt1 rfl) (.tmp rfl)) <| .cons (.ptrNil0 (lt1 rfl) (.tmp rfl) Try.underlying39) <| .cons (.assign (lt1 rfl) (.tmp rfl)) <| ARun.nil _ _ _) ?_
  refine AWP.vc (s' := ⟨[(0, .ptr 1 0), (3, .sc (.bool false))], [(1, ⟨82, false, [.rd β1 a0_b0.length (a0_b0.flatMap enc8), .sc (.int .i64 a0_b1), .sc (.bool a0_b2)]⟩)]⟩) (VC.sub (.c rfl <| .c rfl <| .n _) (.c rfl <| .n _)) ?_
  refine AWP.cond (.tmp rfl) (fun hc => by cases hc) (fun _ => ?_)
  refine AWP.seq ?_
  refine AWP.draw (s' := ⟨[(6, .sc (.bool (a0_b2 || (decide (a0_b1 < (a0_b0.length : Int))))))], [(1, ⟨82, false, [.rd β1 a0_b0.length (a0_b0.flatMap enc8), .sc (.int .i64 a0_b1), .sc (.bool a0_b2)]⟩)]⟩) mixed [⟨0, .ptr 1 0, none, []⟩, ⟨3, .sc (.bool false), none, []⟩, ⟨7, .ptr 1 0, some 0, []⟩, ⟨8, .ptr 1 0, some 1, []⟩, ⟨9, .ptr 1 (0 + 2), some 2, []⟩, ⟨10, .sc (.bool a0_b2), some 3, []⟩, ⟨11, .sc (.bool a0_b2), some 4, []⟩, ⟨12, .gd (!a0_b2) (.ptr 1 0), some 5, []⟩, ⟨13, .gd (!a0_b2) (.ptr 1 0), some 6, []⟩, ⟨14, .gd (!a0_b2) (.ptr 1 (0 + 1)), some 7, []⟩, ⟨15, .gd (!a0_b2) (.sc (.int .i64 a0_b1)), some 8, []⟩, ⟨16, .gd (!a0_b2) (.ptr 1 0), some 9, []⟩, ⟨17, .gd (!a0_b2) (.ptr 1 0), some 10, []⟩, ⟨18, .gd (!a0_b2) (.ptr 1 (0 + 0)), some 11, []⟩, ⟨19, .gd (!a0_b2) (.rd β1 a0_b0.length (a0_b0.flatMap enc8)), some 12, []⟩, ⟨20, .gd (!a0_b2) (.sc (.int .i64 (a0_b0.length : Int))), some 13, []⟩, ⟨21, .gd (!a0_b2) (.sc (.bool (decide (a0_b1 < (a0_b0.length : Int))))), some 14, []⟩, ⟨22, .sc (.bool (a0_b2 || (decide (a0_b1 < (a0_b0.length : Int))))), some 15, []⟩, ⟨6, .sc (.bool (a0_b2 || (decide (a0_b1 < (a0_b0.length : Int))))), some 16, []⟩] [⟨[0], 0, 0, some (7, .ptr 1 0), []⟩, ⟨[2], 0, 0, some (8, .ptr 1 0), []⟩, ⟨[3], 0, 0, some (9, .ptr 1 (0 + 2)), []⟩, ⟨[4], 0, 0, some (10, .sc (.bool a0_b2)), []⟩, ⟨[5], 0, 0, some (11, .sc (.bool a0_b2)), []⟩, ⟨[6, 0], 0, 0, some (12, .gd (!a0_b2) (.ptr 1 0)), []⟩, ⟨[6, 7], 0, 0, some (13, .gd (!a0_b2) (.ptr 1 0)), []⟩, ⟨[6, 8], 0, 0, some (14, .gd (!a0_b2) (.ptr 1 (0 + 1))), []⟩, ⟨[6, 9], 0, 0, some (15, .gd (!a0_b2) (.sc (.int .i64 a0_b1))), []⟩, ⟨[6, 0], 0, 0, some (16, .gd (!a0_b2) (.ptr 1 0)), []⟩, ⟨[6, 11], 0, 0, some (17, .gd (!a0_b2) (.ptr 1 0)), []⟩, ⟨[6, 12], 0, 0, some (18, .gd (!a0_b2) (.ptr 1 (0 + 0))), []⟩, ⟨[6, 13], 0, 0, some (19, .gd (!a0_b2) (.rd β1 a0_b0.length (a0_b0.flatMap enc8))), []⟩, ⟨[6, 14], 0, 0, some (20, .gd (!a0_b2) (.sc (.int .i64 (a0_b0.length : Int)))), []⟩, ⟨[6, 10, 15], 0, 0, some (21, .gd (!a0_b2) (.sc (.bool (decide (a0_b1 < (a0_b0.length : Int)))))), []⟩, ⟨[6, 16], 0, 0, some (22, .sc (.bool (a0_b2 || (decide (a0_b1 < (a0_b0.length : Int)))))), []⟩, ⟨[17], 0, 0, some (6, .sc (.bool (a0_b2 || (decide (a0_b1 < (a0_b0.length : Int)))))), []⟩] [] [[(1, ⟨82, false, [.rd β1 a0_b0.length (a0_b0.flatMap enc8), .sc (.int .i64 a0_b1), .sc (.bool a0_b2)]⟩)]] [[], [0], [0, 1], [0, 1, 2], [0, 1, 2, 3], [0, 1, 2, 3, 4], [0, 1, 2, 3, 4, 5], [0, 1, 2, 3, 4, 5, 6], [0, 1, 2, 3, 4, 5, 6, 7], [0, 1, 2, 3, 4], [0, 1, 2, 3, 4, 9], [0, 1, 2, 3, 4, 9, 10], [0, 1, 2, 3, 4, 9, 10, 11], [0, 1, 2, 3, 4, 9, 10, 11, 12], [0, 1, 2, 3, 4, 5, 6, 7, 8, 9, 10, 11, 12, 13], [0, 1, 2, 3, 4, 5, 6, 7, 8, 9, 10, 11, 12, 13, 14], [0, 1, 2, 3, 4, 5, 6, 7, 8, 9, 10, 11, 12, 13, 14, 15]] (by kernel_rfl) (by kernel_rfl) (BornL.ok (.o <| .o <| .b rfl rfl <| .b rfl rfl <| .b rfl rfl <| .b rfl rfl <| .b rfl rfl <| .b rfl rfl <| .b rfl rfl <| .b rfl rfl <| .b rfl rfl <| .b rfl rfl <| .b rfl rfl <| .b rfl rfl <| .b rfl rfl <| .b rfl rfl <| .b rfl rfl <| .b rfl rfl <| .b rfl rfl <| .n)) (BaseL.ok (.o rfl <| .o rfl <| .b <| .b <| .b <| .b <| .b <| .b <| .b <| .b <| .b <| .b <| .b <| .b <| .b <| .b <| .b <| .b <| .b <| .n)) rfl (by decide) (allLt rfl) (.read rfl (.c (.put (fun E hE => .move (lt1 rfl) (.tmp (hE.at (k := 0) rfl)))) .n) <| .read rfl (.c (.put (fun E hE => .nilCheck (lt1 rfl) (.tmp (hE.at (k := 0) rfl)) trivial)) .n) <| .read rfl (.c (.put (fun E hE => .fieldP (lt1 rfl) (.tmp (hE.at (k := 0) rfl)) fld82_2)) .n) <| .read rfl (.c (.put (fun E hE => .loadP (lt1 rfl) (.tmp (hE.at (k := 0) rfl)) one4 rfl rfl rfl)) .n) <| .pure rfl (fun H => .put (fun E hE => .move (lt1 rfl) (.tmp (hE.at (k := 0) rfl)))) <| .read rfl (.c (.gput (b := a0_b2) (want := false) (j := 4) (dj := 11) rfl (lt1 rfl) (lt1 rfl) (fun E hE => hE.at (k := 0) rfl) (fun hg E hE => .move (lt1 rfl) (.tmp (hE.at (k := 1) rfl)))) .n) <| .read rfl (.c (.gput (b := a0_b2) (want := false) (j := 4) (dj := 11) rfl (lt1 rfl) (lt1 rfl) (fun E hE => hE.at (k := 0) rfl) (fun hg E hE => .nilCheck (lt1 rfl) (.gd hg (.tmp (hE.at (k := 1) rfl))) trivial)) .n) <| .read rfl (.c (.gput (b := a0_b2) (want := false) (j := 4) (dj := 11) rfl (lt1 rfl) (lt1 rfl) (fun E hE => hE.at (k := 0) rfl) (fun hg E hE => .fieldP (lt1 rfl) (.gd hg (.tmp (hE.at (k := 1) rfl))) fld82_1)) .n) <| .read rfl (.c (.gput (b := a0_b2) (want := false) (j := 4) (dj := 11) rfl (lt1 rfl) (lt1 rfl) (fun E hE => hE.at (k := 0) rfl) (fun hg E hE => .loadP (lt1 rfl) (.gd hg (.tmp (hE.at (k := 1) rfl))) one3 rfl rfl rfl)) .n) <| .read rfl (.c (.gput (b := a0_b2) (want := false) (j := 4) (dj := 11) rfl (lt1 rfl) (lt1 rfl) (fun E hE => hE.at (k := 0) rfl) (fun hg E hE => .move (lt1 rfl) (.tmp (hE.at (k := 1) rfl)))) .n) <| .read rfl (.c (.gput (b := a0_b2) (want := false) (j := 4) (dj := 11) rfl (lt1 rfl) (lt1 rfl) (fun E hE => hE.at (k := 0) rfl) (fun hg E hE => .nilCheck (lt1 rfl) (.gd hg (.tmp (hE.at (k := 1) rfl))) trivial)) .n) <| .read rfl (.c (.gput (b := a0_b2) (want := false) (j := 4) (dj := 11) rfl (lt1 rfl) (lt1 rfl) (fun E hE => hE.at (k := 0) rfl) (fun hg E hE => .fieldP (lt1 rfl) (.gd hg (.tmp (hE.at (k := 1) rfl))) fld82_0)) .n) <| .read rfl (.c (.gput (b := a0_b2) (want := false) (j := 4) (dj := 11) rfl (lt1 rfl) (lt1 rfl) (fun E hE => hE.at (k := 0) rfl) (fun hg E hE => .loadP (lt1 rfl) (.gd hg (.tmp (hE.at (k := 1) rfl))) one33 rfl rfl rfl)) .n) <| .pure rfl (fun H => .gput (b := a0_b2) (want := false) (j := 4) (dj := 11) rfl (lt1 rfl) (lt1 rfl) (fun E hE => hE.at (k := 0) rfl) (fun hg E hE => .lenRd (lt1 rfl) (.gd hg (.tmp (hE.at (k := 1) rfl))) Try.underlying33)) <| .pure rfl (fun H => .gput (b := a0_b2) (want := false) (j := 4) (dj := 11) rfl (lt1 rfl) (lt1 rfl) (fun E hE => hE.at (k := 0) rfl) (fun hg E hE => .lss (lt1 rfl) (.gd hg (.tmp (hE.at (k := 1) rfl))) (.gd hg (.tmp (hE.at (k := 2) rfl))))) <| .pure rfl (fun H => .put (fun E hE => .pickOr (lt1 rfl) (.tmp (hE.at (k := 0) rfl)) (.const _ _ _) (.tmp (hE.at (k := 1) rfl)))) <| .pure rfl (fun H => .put (fun E hE => .assign (lt1 rfl) (.tmp (hE.at (k := 0) rfl)))) <| .nil _) (fun E hE => .c (DInv.at hE (k := 18) rfl rfl rfl) <| .n _) rfl ?_
  refine AWP.vc (s' := ⟨[(6, .sc (.bool (a0_b2 || (decide (a0_b1 < (a0_b0.length : Int))))))], [(1, ⟨82, false, [.rd β1 a0_b0.length (a0_b0.flatMap enc8), .sc (.int .i64 a0_b1), .sc (.bool a0_b2)]⟩)]⟩) (VC.sub (.c rfl <| .n _) (.c rfl <| .n _)) ?_
  refine AWP.cond (.tmp rfl) (fun hc => ?_) (fun hc => ?_)
  · have h := iteT hc h
    refine AWP.seq ?_
    refine AWP.region (.cons (.assign (lt1 rfl) (.const _ _ _)) <| ARun.nil _ _ _) ?_
    refine AWP.ret ?_
    obtain rfl := Option.some.inj h
    refine retJ (Res.vc (s' := ⟨[(2, .sc (.int .i64 (4 : Int)))], [(1, ⟨82, false, [.rd β1 a0_b0.length (a0_b0.flatMap enc8), .sc (.int .i64 a0_b1), .sc (.bool a0_b2)]⟩)]⟩) (VC.sub (.c rfl <| .n _) (.c rfl <| .n _)) ?_)
    refine Res.sub (H := [(1, ⟨82, false, [.rd β1 a0_b0.length (a0_b0.flatMap enc8), .sc (.int .i64 a0_b1), .sc (.bool a0_b2)]⟩)]) (.c rfl <| .n _) ?_
    exact Res.of rfl (.cons (.tmp rfl) (.nil)) rfl rfl
  · have h := iteF hc h
    refine AWP.skip ?_
    refine AWP.seq ?_
    refine AWP.region (.cons (.assign (lt1 rfl) (.const _ _ _)) <| ARun.nil _ _ _) ?_
    refine AWP.ret ?_
    obtain rfl := Option.some.inj h
    refine retJ (Res.vc (s' := ⟨[(2, .sc (.int .i64 (0 : Int)))], [(1, ⟨82, false, [.rd β1 a0_b0.length (a0_b0.flatMap enc8), .sc (.int .i64 a0_b1), .sc (.bool a0_b2)]⟩)]⟩) (VC.sub (.c rfl <| .n _) (.c rfl <| .n _)) ?_)
    refine Res.sub (H := [(1, ⟨82, false, [.rd β1 a0_b0.length (a0_b0.flatMap enc8), .sc (.int .i64 a0_b1), .sc (.bool a0_b2)]⟩)]) (.c rfl <| .n _) ?_
    exact Res.of rfl (.cons (.tmp rfl) (.nil)) rfl rfl
theorem c9 (n : Nat) {r : Bool} (h : m9 n = some r) : Spec Try.prog 9 [] [] [] (.sc (.bool r)) [] := by
  refine Spec.of (fn := Try.f9) Try.func9 Try.ntmps9 rfl rfl (le1 rfl) (fun w0 Zs Zb T0 ι0 => ?_)
  unfold m9 at h
  refine AWP.seq ?_
  refine AWP.region (.cons (.assign (lt1 rfl) (.const _ _ _)) <| ARun.nil _ _ _) ?_
  refine AWP.vc (s' := ⟨[], []⟩) (VC.sub (.n _) (.n _)) ?_
  refine AWP.seq ?_
  obtain ⟨y_1, hy_1, h⟩ := bindS h
  refine AWP.region (.cons (.buildSlice (t := 1) (out := ([(2 : UInt8), (0 : UInt8), (127 : UInt8)] : List UInt8).flatMap enc8) (lt1 rfl) (nm rfl) (.cons (.const _ _ _) (by first | exact ⟨rfl, rfl⟩ | rfl) (.cons (.const _ _ _) (by first | exact ⟨rfl, rfl⟩ | rfl) (.cons (.const _ _ _) (by first | exact ⟨rfl, rfl⟩ | rfl) (.nil)))) Try.underlying33 zero5 el5 (by decide) (by decide) rfl (still_all enc8_still _)) <| .cons (.call (σ := fun _ => 2) (bw := true) (lt1 rfl) (c16 (β1 := true) n ([(2 : UInt8), (0 : UInt8), (127 : UInt8)] : List UInt8) hy_1) (.cons (.tmp rfl) (.lendRow rfl rfl enc8_len rfl) (.nil)) (CallOk.mk' (.n) rfl)) <| .cons (.assign (lt1 rfl) (.tmp rfl)) <| ARun.nil _ _ _) ?_
  refine AWP.vc (s' := ⟨[(1, .ptr 2 0)], [(2, ⟨82, false, [.rd false y_1.b.length (y_1.b.flatMap enc8), .sc (.int .i64 y_1.at_), .sc (.bool y_1.failed)]⟩)]⟩) (VC.sub (.c rfl <| .n _) (.c rfl <| .n _)) ?_
  refine AWP.seq ?_
  obtain ⟨y_2, hy_2, h⟩ := bindS h
  obtain ⟨y_3, hy_3, h⟩ := bindS h
  obtain ⟨y_4, hy_4, h⟩ := bindS h
  obtain ⟨y_5, hy_5, h⟩ := bindS h
  refine AWP.join' (S := fun p_9 : Bool => ⟨[(0, .sc (.bool p_9))], []⟩) h (fun p_9 h => ?_) (fun k_10 h => ?_)
  · refine AWP.ret ?_
    obtain rfl := Option.some.inj h
    refine retJ (Res.vc (s' := ⟨[(0, .sc (.bool p_9))], []⟩) (VC.sub (.c rfl <| .n _) (.n _)) ?_)
    refine Res.drop (H := []) rfl ?_
    exact Res.of rfl (.cons (.tmp rfl) (.nil)) rfl rfl
  · rcases boolTF ((y_3 && y_5) && true) with hs_6 | hs_6
    · have h := iteT hs_6 h
      obtain ⟨y_7, hy_7, h⟩ := bindS h
      obtain ⟨y_8, hy_8, h⟩ := bindS h
      refine AWP.region (.cons (.buildSlice (t := 3) (out := ([(9 : UInt8)] : List UInt8).flatMap enc8) (lt1 rfl) (nm rfl) (.cons (.const _ _ _) (by first | exact ⟨rfl, rfl⟩ | rfl) (.nil)) Try.underlying33 zero5 el5 (by decide) (by decide) rfl (still_all enc8_still _)) <| .cons (.call (σ := fun _ => 3) (bw := false) (lt1 rfl) (c12o n ([(9 : UInt8)] : List UInt8) (128 : Int) hy_2) (.cons (.tmp rfl) (.ren rfl) (.cons (.const _ _ _) (.ren rfl) (.nil))) (CallOk.mk' (.c rfl (.n)) rfl)) <| .cons (.buildSlice (t := 4) (out := ([(9 : UInt8), (2 : UInt8), (0 : UInt8), (128 : UInt8)] : List UInt8).flatMap enc8) (lt1 rfl) (nm rfl) (.cons (.const _ _ _) (by first | exact ⟨rfl, rfl⟩ | rfl) (.cons (.const _ _ _) (by first | exact ⟨rfl, rfl⟩ | rfl) (.cons (.const _ _ _) (by first | exact ⟨rfl, rfl⟩ | rfl) (.cons (.const _ _ _) (by first | exact ⟨rfl, rfl⟩ | rfl) (.nil))))) Try.underlying33 zero5 el5 (by decide) (by decide) rfl (still_all enc8_still _)) <| .cons (.call0 (bw := true) (lt1 rfl) (c11 (β1 := true) (β2 := true) n y_2 ([(9 : UInt8), (2 : UInt8), (0 : UInt8), (128 : UInt8)] : List UInt8) hy_3) (.cons (.tmp rfl) (.lendRow rfl rfl enc8_len rfl) (.cons (.tmp rfl) (.lendRow rfl rfl enc8_len rfl) (.nil))) rfl) <| .cons (.move (lt1 rfl) (.tmp rfl)) <| .guard (j := 4) (dj := 8) rfl (lt1 rfl) rfl (lt1 rfl) (fun hg => .buildO (offs := [(0, 1), (1, 1)]) (lt1 rfl) (.cons (.const _ _ _) (by first | exact ⟨rfl, rfl⟩ | rfl) (.nil)) zero60 offs60 rfl) <| .guard (j := 4) (dj := 8) rfl (lt1 rfl) rfl (lt1 rfl) (fun hg => .call0 (bw := false) (lt1 rfl) (c40 n (R59.mk (3 : Int) (0 : Int)) (gdB hy_4 hg)) (.cons (.const _ _ _) (.ren rfl) (.cons (.gd hg (.tmp rfl)) (.ren rfl) (.nil))) rfl) <| .guard (j := 4) (dj := 8) rfl (lt1 rfl) rfl (lt1 rfl) (fun hg => .frzAny (fun t ht => AStep.buildSlice (t := t) (out := ([(1 : UInt8), (3 : UInt8), (0 : UInt8)] : List UInt8).flatMap enc8) (lt1 rfl) ht (.cons (.const _ _ _) (by first | exact ⟨rfl, rfl⟩ | rfl) (.cons (.const _ _ _) (by first | exact ⟨rfl, rfl⟩ | rfl) (.cons (.const _ _ _) (by first | exact ⟨rfl, rfl⟩ | rfl) (.nil)))) Try.underlying33 zero5 el5 (by decide) (by decide) rfl (still_all enc8_still _)) rfl enc8_len) <| .guard (j := 4) (dj := 8) rfl (lt1 rfl) rfl (lt1 rfl) (fun hg => .call0 (bw := false) (lt1 rfl) (c11 (β1 := false) (β2 := false) n y_4 ([(1 : UInt8), (3 : UInt8), (0 : UInt8)] : List UInt8) (gdB hy_5 hg)) (.cons (.gd hg (.tmp rfl)) (.ren rfl) (.cons (.gd hg (.tmp rfl)) (.ren rfl) (.nil))) rfl) <| .cons (.pickAnd (lt1 rfl) (.tmp rfl) (.tmp rfl) (.const _ _ _)) <| .cons (.move (lt1 rfl) (.tmp rfl)) <| .guard (j := 10) (dj := 14) rfl (lt1 rfl) rfl (lt1 rfl) (fun hg => .move (lt1 rfl) (.tmp rfl)) <| .guard (j := 10) (dj := 14) rfl (lt1 rfl) rfl (lt1 rfl) (fun hg => .ptrNil1 (lt1 rfl) (.gd hg (.tmp rfl)) Try.underlying39) <| .cons (.pickAnd (lt1 rfl) (.tmp rfl) (.tmp rfl) (.const _ _ _)) <| .cons (.move (lt1 rfl) (.tmp rfl)) <| .guard (j := 14) (dj := 18) rfl (lt1 rfl) rfl (lt1 rfl) (fun hg => .move (lt1 rfl) (.tmp rfl)) <| .guardT (j := 14) (dj := 18) rfl (lt1 rfl) rfl hs_6 (.call (σ := fun _ => 2) (bw := false) (lt1 rfl) (c17 (β1 := false) n y_1.b y_1.at_ y_1.failed hy_7) (.cons (.gd hs_6 (.tmp rfl)) (.ren rfl) (.nil)) (CallOk.mk' (.c rfl (.n)) rfl)) <| .guardT (j := 14) (dj := 18) rfl (lt1 rfl) rfl hs_6 (.eql (lt1 rfl) (.tmp rfl) (.const _ _ _)) <| .cons (.pickT (lt1 rfl) (.tmp rfl) hs_6 (.tmp rfl)) <| .cons (.move (lt1 rfl) (.tmp rfl)) <| .guard (j := 19) (dj := 23) rfl (lt1 rfl) rfl (lt1 rfl) (fun hg => .move (lt1 rfl) (.tmp rfl)) <| .guard (j := 19) (dj := 23) rfl (lt1 rfl) rfl (lt1 rfl) (fun hg => .keep (bw := false) (AStep.call (σ := fun _ => 2) (bw := false) (lt1 rfl) (c18 (β1 := false) n y_7.2.1 y_7.2.2.1 y_7.2.2.2 (gdB hy_8 hg)) (.cons (.gd hg (.tmp rfl)) (.ren rfl) (.nil)) (CallOk.mk' (.c rfl (.n)) rfl)) (CallOk.mk' (.c rfl (.n)) rfl) rfl rfl) <| .guard (j := 19) (dj := 23) rfl (lt1 rfl) rfl (lt1 rfl) (fun hg => .eql (lt1 rfl) (.gd hg (.tmp rfl)) (.const _ _ _)) <| .cons (.pickAnd (lt1 rfl) (.tmp rfl) (.tmp rfl) (.const _ _ _)) <| .cons (.assign (lt1 rfl) (.tmp rfl)) <| ARun.nil _ _ _) ?_
      exact endJ ((decide (y_7.1 = (0 : Int))) && (decide (y_8 = (4 : Int)))) h (VC.sub (.c rfl <| .n _) (.n _))
    · have h := iteF hs_6 h
      refine AWP.region (.cons (.buildSlice (t := 3) (out := ([(9 : UInt8)] : List UInt8).flatMap enc8) (lt1 rfl) (nm rfl) (.cons (.const _ _ _) (by first | exact ⟨rfl, rfl⟩ | rfl) (.nil)) Try.underlying33 zero5 el5 (by decide) (by decide) rfl (still_all enc8_still _)) <| .cons (.call (σ := fun _ => 3) (bw := false) (lt1 rfl) (c12o n ([(9 : UInt8)] : List UInt8) (128 : Int) hy_2) (.cons (.tmp rfl) (.ren rfl) (.cons (.const _ _ _) (.ren rfl) (.nil))) (CallOk.mk' (.c rfl (.n)) rfl)) <| .cons (.buildSlice (t := 4) (out := ([(9 : UInt8), (2 : UInt8), (0 : UInt8), (128 : UInt8)] : List UInt8).flatMap enc8) (lt1 rfl) (nm rfl) (.cons (.const _ _ _) (by first | exact ⟨rfl, rfl⟩ | rfl) (.cons (.const _ _ _) (by first | exact ⟨rfl, rfl⟩ | rfl) (.cons (.const _ _ _) (by first | exact ⟨rfl, rfl⟩ | rfl) (.cons (.const _ _ _) (by first | exact ⟨rfl, rfl⟩ | rfl) (.nil))))) Try.underlying33 zero5 el5 (by decide) (by decide) rfl (still_all enc8_still _)) <| .cons (.call0 (bw := true) (lt1 rfl) (c11 (β1 := true) (β2 := true) n y_2 ([(9 : UInt8), (2 : UInt8), (0 : UInt8), (128 : UInt8)] : List UInt8) hy_3) (.cons (.tmp rfl) (.lendRow rfl rfl enc8_len rfl) (.cons (.tmp rfl) (.lendRow rfl rfl enc8_len rfl) (.nil))) rfl) <| .cons (.move (lt1 rfl) (.tmp rfl)) <| .guard (j := 4) (dj := 8) rfl (lt1 rfl) rfl (lt1 rfl) (fun hg => .buildO (offs := [(0, 1), (1, 1)]) (lt1 rfl) (.cons (.const _ _ _) (by first | exact ⟨rfl, rfl⟩ | rfl) (.nil)) zero60 offs60 rfl) <| .guard (j := 4) (dj := 8) rfl (lt1 rfl) rfl (lt1 rfl) (fun hg => .call0 (bw := false) (lt1 rfl) (c40 n (R59.mk (3 : Int) (0 : Int)) (gdB hy_4 hg)) (.cons (.const _ _ _) (.ren rfl) (.cons (.gd hg (.tmp rfl)) (.ren rfl) (.nil))) rfl) <| .guard (j := 4) (dj := 8) rfl (lt1 rfl) rfl (lt1 rfl) (fun hg => .frzAny (fun t ht => AStep.buildSlice (t := t) (out := ([(1 : UInt8), (3 : UInt8), (0 : UInt8)] : List UInt8).flatMap enc8) (lt1 rfl) ht (.cons (.const _ _ _) (by first | exact ⟨rfl, rfl⟩ | rfl) (.cons (.const _ _ _) (by first | exact ⟨rfl, rfl⟩ | rfl) (.cons (.const _ _ _) (by first | exact ⟨rfl, rfl⟩ | rfl) (.nil)))) Try.underlying33 zero5 el5 (by decide) (by decide) rfl (still_all enc8_still _)) rfl enc8_len) <| .guard (j := 4) (dj := 8) rfl (lt1 rfl) rfl (lt1 rfl) (fun hg => .call0 (bw := false) (lt1 rfl) (c11 (β1 := false) (β2 := false) n y_4 ([(1 : UInt8), (3 : UInt8), (0 : UInt8)] : List UInt8) (gdB hy_5 hg)) (.cons (.gd hg (.tmp rfl)) (.ren rfl) (.cons (.gd hg (.tmp rfl)) (.ren rfl) (.nil))) rfl) <| .cons (.pickAnd (lt1 rfl) (.tmp rfl) (.tmp rfl) (.const _ _ _)) <| .cons (.move (lt1 rfl) (.tmp rfl)) <| .guard (j := 10) (dj := 14) rfl (lt1 rfl) rfl (lt1 rfl) (fun hg => .move (lt1 rfl) (.tmp rfl)) <| .guard (j := 10) (dj := 14) rfl (lt1 rfl) rfl (lt1 rfl) (fun hg => .ptrNil1 (lt1 rfl) (.gd hg (.tmp rfl)) Try.underlying39) <| .cons (.pickAnd (lt1 rfl) (.tmp rfl) (.tmp rfl) (.const _ _ _)) <| .cons (.move (lt1 rfl) (.tmp rfl)) <| .guard (j := 14) (dj := 18) rfl (lt1 rfl) rfl (lt1 rfl) (fun hg => .move (lt1 rfl) (.tmp rfl)) <| .guardF (j := 14) (dj := 18) rfl (lt1 rfl) rfl (lt1 rfl) hs_6 <| .guardF (j := 14) (dj := 18) rfl (lt1 rfl) rfl (lt1 rfl) hs_6 <| .cons (.pickF (lt1 rfl) (.tmp rfl) hs_6 (.const _ _ _)) <| .cons (.move (lt1 rfl) (.tmp rfl)) <| .guard (v := .any) (j := 19) (dj := 23) rfl (lt1 rfl) rfl (lt1 rfl) (fun hg => by cases hg) <| .guard (v := .any) (j := 19) (dj := 23) rfl (lt1 rfl) rfl (lt1 rfl) (fun hg => by cases hg) <| .guard (v := .any) (j := 19) (dj := 23) rfl (lt1 rfl) rfl (lt1 rfl) (fun hg => by cases hg) <| .cons (.pickF (lt1 rfl) (.tmp rfl) rfl (.const _ _ _)) <| .cons (.assign (lt1 rfl) (.tmp rfl)) <| ARun.nil _ _ _) ?_
      exact endJ false h (VC.sub (.c rfl <| .n _) (.n _))
theorem c39 {β1 : Bool} {β2 : Bool} (n : Nat) (a0 : (List R59)) (a1 : (List R59)) {r : Bool} (h : m39 n a0 a1 = some r) : Spec Try.prog 39 [] [.rd β1 a0.length (a0.flatMap encR59), .rd β2 a1.length (a1.flatMap encR59)] [] (.sc (.bool r)) [] := by
  refine Spec.of (fn := Try.f39) Try.func39 Try.ntmps39 rfl rfl (le1 rfl) (fun w0 Zs Zb T0 ι0 => ?_)
  unfold m39 at h
  refine AWP.seq ?_
  refine AWP.region (.cons (.assign (lt1 rfl) (.const _ _ _)) <| ARun.nil _ _ _) ?_
  refine AWP.vc (s' := ⟨[(0, .rd β1 a0.length (a0.flatMap encR59)), (1, .rd β2 a1.length (a1.flatMap encR59))], []⟩) (VC.sub (.c rfl <| .c rfl <| .n _) (.n _)) ?_
  refine AWP.seq ?_
  refine AWP.seq ?_
  refine AWP.region (.cons (.move (lt1 rfl) (.tmp rfl)) <| .cons (.lenRd (lt1 rfl) (.tmp rfl) Try.underlying24) <| .cons (.move (lt1 rfl) (.tmp rfl)) <| .cons (.lenRd (lt1 rfl) (.tmp rfl) Try.underlying24) <| .cons (.neq (lt1 rfl) (.tmp rfl) (.tmp rfl)) <| ARun.nil _ _ _) ?_
  refine AWP.vc (s' := ⟨[(0, .rd β1 a0.length (a0.flatMap encR59)), (1, .rd β2 a1.length (a1.flatMap encR59)), (10, .sc (.bool (!decide ((a0.length : Int) = (a1.length : Int)))))], []⟩) (VC.sub (.c rfl <| .c rfl <| .c rfl <| .n _) (.n _)) ?_
  refine AWP.cond (.tmp rfl) (fun hc => ?_) (fun hc => ?_)
  · have h := iteT hc h
    refine AWP.seq ?_
    refine AWP.region (.cons (.assign (lt1 rfl) (.const _ _ _)) <| ARun.nil _ _ _) ?_
    refine AWP.ret ?_
    obtain rfl := Option.some.inj h
    refine retJ (Res.vc (s' := ⟨[(4, .sc (.bool false))], []⟩) (VC.sub (.c rfl <| .n _) (.n _)) ?_)
    refine Res.drop (H := []) rfl ?_
    exact Res.of rfl (.cons (.tmp rfl) (.nil)) rfl rfl
  · have h := iteF hc h
    refine AWP.skip ?_
    refine AWP.seq ?_
    refine AWP.seq ?_
    refine AWP.region (.cons (.assign (lt1 rfl) (.const _ _ _)) <| ARun.nil _ _ _) ?_
    refine AWP.vc (s' := ⟨[(0, .rd β1 a0.length (a0.flatMap encR59)), (1, .rd β2 a1.length (a1.flatMap encR59)), (5, .sc (.int .i64 (0 : Int)))], []⟩) (VC.sub (.c rfl <| .c rfl <| .c rfl <| .n _) (.n _)) ?_
    refine AWP.joinB' (S := fun p_14 : Unit => ⟨[], []⟩) h (fun p_14 h => ?_) (fun k_15 h => ?_)
    · refine AWP.seq ?_
      refine AWP.region (.cons (.assign (lt1 rfl) (.const _ _ _)) <| ARun.nil _ _ _) ?_
      refine AWP.ret ?_
      obtain rfl := Option.some.inj h
      refine retJ (Res.vc (s' := ⟨[(4, .sc (.bool true))], []⟩) (VC.sub (.c rfl <| .n _) (.n _)) ?_)
      refine Res.drop (H := []) rfl ?_
      exact Res.of rfl (.cons (.tmp rfl) (.nil)) rfl rfl
    · refine AWP.vc (s' := ⟨[(0, .rd β1 a0.length (a0.flatMap encR59)), (1, .rd β2 a1.length (a1.flatMap encR59)), (5, .sc (.int .i64 (0 : Int)))], []⟩) (VC.sub (.c rfl <| .c rfl <| .c rfl <| .n _) (.n _)) ?_
      refine AWP.loopM (S := fun x_9 : Int => ⟨[(0, .rd β1 a0.length (a0.flatMap encR59)), (1, .rd β2 a1.length (a1.flatMap encR59)), (5, .sc (.int .i64 x_9))], []⟩) (x := (0 : Int)) (fun nx_10 x_9 h => ?_) h
      unfold m39_L1 at h
      refine AWP.seq ?_
      refine AWP.seq ?_
      refine AWP.region (.cons (.move (lt1 rfl) (.tmp rfl)) <| .cons (.move (lt1 rfl) (.tmp rfl)) <| .cons (.lenRd (lt1 rfl) (.tmp rfl) Try.underlying24) <| .cons (.lss (lt1 rfl) (.tmp rfl) (.tmp rfl)) <| ARun.nil _ _ _) ?_
      refine AWP.vc (s' := ⟨[(0, .rd β1 a0.length (a0.flatMap encR59)), (1, .rd β2 a1.length (a1.flatMap encR59)), (5, .sc (.int .i64 x_9)), (14, .sc (.bool (decide (x_9 < (a0.length : Int)))))], []⟩) (VC.sub (.c rfl <| .c rfl <| .c rfl <| .c rfl <| .n _) (.n _)) ?_
      refine AWP.cond (.tmp rfl) (fun hc => ?_) (fun hc => ?_)
      · have h := iteT hc h
        refine AWP.skip ?_
        refine AWP.seq ?_
        refine AWP.block ?_
        refine AWP.seq ?_
        obtain ⟨y_11, hy_11, h⟩ := bindS h
        obtain ⟨y_12, hy_12, h⟩ := bindS h
        refine AWP.draw (s' := ⟨[(0, .rd β1 a0.length (a0.flatMap encR59)), (1, .rd β2 a1.length (a1.flatMap encR59)), (5, .sc (.int .i64 x_9)), (25, .sc (.bool (!(([y_11.X, y_11.Y] : List Int) == [y_12.X, y_12.Y]))))], []⟩) mixed [⟨0, .rd β1 a0.length (a0.flatMap encR59), none, []⟩, ⟨1, .rd β2 a1.length (a1.flatMap encR59), none, []⟩, ⟨5, .sc (.int .i64 x_9), none, []⟩, ⟨14, .sc (.bool (decide (x_9 < (a0.length : Int)))), none, []⟩, ⟨17, .rd β1 a0.length (a0.flatMap encR59), some 0, []⟩, ⟨18, .sc (.int .i64 x_9), some 1, []⟩, ⟨19, .rptr β1 [.sc (.int .i64 y_11.X), .sc (.int .i64 y_11.Y)], some 2, []⟩, ⟨20, .agg [.sc (.int .i64 y_11.X), .sc (.int .i64 y_11.Y)], some 3, []⟩, ⟨21, .rd β2 a1.length (a1.flatMap encR59), some 4, []⟩, ⟨22, .sc (.int .i64 x_9), some 5, []⟩, ⟨23, .rptr β2 [.sc (.int .i64 y_12.X), .sc (.int .i64 y_12.Y)], some 6, []⟩, ⟨24, .agg [.sc (.int .i64 y_12.X), .sc (.int .i64 y_12.Y)], some 7, []⟩, ⟨25, .sc (.bool (!(([y_11.X, y_11.Y] : List Int) == [y_12.X, y_12.Y]))), some 8, []⟩] [⟨[0], 0, 0, some (17, .rd β1 a0.length (a0.flatMap encR59)), []⟩, ⟨[2], 0, 0, some (18, .sc (.int .i64 x_9)), []⟩, ⟨[4, 5], 0, 0, some (19, .rptr β1 [.sc (.int .i64 y_11.X), .sc (.int .i64 y_11.Y)]), []⟩, ⟨[6], 0, 0, some (20, .agg [.sc (.int .i64 y_11.X), .sc (.int .i64 y_11.Y)]), []⟩, ⟨[1], 0, 0, some (21, .rd β2 a1.length (a1.flatMap encR59)), []⟩, ⟨[2], 0, 0, some (22, .sc (.int .i64 x_9)), []⟩, ⟨[8, 9], 0, 0, some (23, .rptr β2 [.sc (.int .i64 y_12.X), .sc (.int .i64 y_12.Y)]), []⟩, ⟨[10], 0, 0, some (24, .agg [.sc (.int .i64 y_12.X), .sc (.int .i64 y_12.Y)]), []⟩, ⟨[7, 11], 0, 0, some (25, .sc (.bool (!(([y_11.X, y_11.Y] : List Int) == [y_12.X, y_12.Y])))), []⟩] [] [[]] [[], [], [0, 1], [0, 1, 2], [], [], [4, 5], [4, 5, 6], [0, 1, 2, 3, 4, 5, 6, 7]] (by kernel_rfl) (by kernel_rfl) (BornL.ok (.o <| .o <| .o <| .o <| .b rfl rfl <| .b rfl rfl <| .b rfl rfl <| .b rfl rfl <| .b rfl rfl <| .b rfl rfl <| .b rfl rfl <| .b rfl rfl <| .b rfl rfl <| .n)) (BaseL.ok (.o rfl <| .o rfl <| .o rfl <| .o rfl <| .b <| .b <| .b <| .b <| .b <| .b <| .b <| .b <| .b <| .n)) rfl (by decide) (allLt rfl) (.pure rfl (fun H => .put (fun E hE => .move (lt1 rfl) (.tmp (hE.at (k := 0) rfl)))) <| .pure rfl (fun H => .put (fun E hE => .move (lt1 rfl) (.tmp (hE.at (k := 0) rfl)))) <| .pure rfl (fun H => .put (fun E hE => .indexRd (enc := encR59) (lt1 rfl) (.tmp (hE.at (k := 0) rfl)) (.tmp (hE.at (k := 1) rfl)) Try.underlying24 sz60 encR59_len rfl hy_11)) <| .pure rfl (fun H => .put (fun E hE => .loadRA (out := [.sc (.int .i64 y_11.X), .sc (.int .i64 y_11.Y)]) (lt1 rfl) (.tmp (hE.at (k := 0) rfl)) agg60 (Nat.le_of_eq (Eq.symm (encR59_len _))) rfl)) <| .pure rfl (fun H => .put (fun E hE => .move (lt1 rfl) (.tmp (hE.at (k := 0) rfl)))) <| .pure rfl (fun H => .put (fun E hE => .move (lt1 rfl) (.tmp (hE.at (k := 0) rfl)))) <| .pure rfl (fun H => .put (fun E hE => .indexRd (enc := encR59) (lt1 rfl) (.tmp (hE.at (k := 0) rfl)) (.tmp (hE.at (k := 1) rfl)) Try.underlying24 sz60 encR59_len rfl hy_12)) <| .pure rfl (fun H => .put (fun E hE => .loadRA (out := [.sc (.int .i64 y_12.X), .sc (.int .i64 y_12.Y)]) (lt1 rfl) (.tmp (hE.at (k := 0) rfl)) agg60 (Nat.le_of_eq (Eq.symm (encR59_len _))) rfl)) <| .pure rfl (fun H => .put (fun E hE => .strCmp1 (us := [y_11.X, y_11.Y]) (vs := [y_12.X, y_12.Y]) (lt1 rfl) (.tmp (hE.at (k := 0) rfl)) (.tmp (hE.at (k := 1) rfl)) Try.underlying60 (.cons _ _ _ (by decide) rfl Try.underlying3 (.cons _ _ _ (by decide) rfl Try.underlying3 (.nil _))) si60 gt60 rfl rfl)) <| .nil _) (fun E hE => .c (DInv.at hE (k := 0) rfl rfl rfl) <| .c (DInv.at hE (k := 1) rfl rfl rfl) <| .c (DInv.at hE (k := 2) rfl rfl rfl) <| .c (DInv.at hE (k := 12) rfl rfl rfl) <| .n _) rfl ?_
        refine AWP.vc (s' := ⟨[(0, .rd β1 a0.length (a0.flatMap encR59)), (1, .rd β2 a1.length (a1.flatMap encR59)), (5, .sc (.int .i64 x_9)), (25, .sc (.bool (!(([y_11.X, y_11.Y] : List Int) == [y_12.X, y_12.Y]))))], []⟩) (VC.sub (.c rfl <| .c rfl <| .c rfl <| .c rfl <| .n _) (.n _)) ?_
        refine AWP.cond (.tmp rfl) (fun hc => ?_) (fun hc => ?_)
        · have h := iteT hc h
          refine AWP.seq ?_
          refine AWP.region (.cons (.assign (lt1 rfl) (.const _ _ _)) <| ARun.nil _ _ _) ?_
          refine AWP.ret ?_
          obtain rfl := Option.some.inj h
          refine retJ (Res.vc (s' := ⟨[(4, .sc (.bool false))], []⟩) (VC.sub (.c rfl <| .n _) (.n _)) ?_)
          refine Res.drop (H := []) rfl ?_
          exact Res.of rfl (.cons (.tmp rfl) (.nil)) rfl rfl
        · have h := iteF hc h
          refine AWP.skip ?_
          obtain ⟨t5_13, ht5_13, h⟩ := letS h
          refine AWP.region (.cons (.move (lt1 rfl) (.tmp rfl)) <| .cons (.add (lt1 rfl) (.tmp rfl) (.const _ _ _)) <| .cons (.assign (lt1 rfl) (.tmp rfl)) <| ARun.nil _ _ _) ?_
          exact endJ t5_13 h (by subst ht5_13; exact VC.sub (.c rfl <| .c rfl <| .c rfl <| .n _) (.n _))
      · have h := iteF hc h
        refine AWP.exit ?_
        exact endJ () h (VC.sub (.n _) (.n _))
theorem c41 {β1 : Bool} {β2 : Bool} (n : Nat) (a0 : (List (List R59))) (a1 : (List (List R59))) {r : Bool} (h : m41 n a0 a1 = some r) : Spec Try.prog 41 [] [.rd β1 a0.length (a0.flatMap encL59), .rd β2 a1.length (a1.flatMap encL59)] [] (.sc (.bool r)) [] := by
  refine Spec.of (fn := Try.f41) Try.func41 Try.ntmps41 rfl rfl (le1 rfl) (fun w0 Zs Zb T0 ι0 => ?_)
  unfold m41 at h
  refine AWP.seq ?_
  refine AWP.region (.cons (.assign (lt1 rfl) (.const _ _ _)) <| ARun.nil _ _ _) ?_
  refine AWP.vc (s' := ⟨[(0, .rd β1 a0.length (a0.flatMap encL59)), (1, .rd β2 a1.length (a1.flatMap encL59))], []⟩) (VC.sub (.c rfl <| .c rfl <| .n _) (.n _)) ?_
  refine AWP.seq ?_
  refine AWP.seq ?_
  refine AWP.region (.cons (.move (lt1 rfl) (.tmp rfl)) <| .cons (.lenRd (lt1 rfl) (.tmp rfl) Try.underlying26) <| .cons (.move (lt1 rfl) (.tmp rfl)) <| .cons (.lenRd (lt1 rfl) (.tmp rfl) Try.underlying26) <| .cons (.neq (lt1 rfl) (.tmp rfl) (.tmp rfl)) <| ARun.nil _ _ _) ?_
  refine AWP.vc (s' := ⟨[(0, .rd β1 a0.length (a0.flatMap encL59)), (1, .rd β2 a1.length (a1.flatMap encL59)), (10, .sc (.bool (!decide ((a0.length : Int) = (a1.length : Int)))))], []⟩) (VC.sub (.c rfl <| .c rfl <| .c rfl <| .n _) (.n _)) ?_
  refine AWP.cond (.tmp rfl) (fun hc => ?_) (fun hc => ?_)
  · have h := iteT hc h
    refine AWP.seq ?_
    refine AWP.region (.cons (.assign (lt1 rfl) (.const _ _ _)) <| ARun.nil _ _ _) ?_
    refine AWP.ret ?_
    obtain rfl := Option.some.inj h
    refine retJ (Res.vc (s' := ⟨[(4, .sc (.bool false))], []⟩) (VC.sub (.c rfl <| .n _) (.n _)) ?_)
    refine Res.drop (H := []) rfl ?_
    exact Res.of rfl (.cons (.tmp rfl) (.nil)) rfl rfl
  · have h := iteF hc h
    refine AWP.skip ?_
    refine AWP.seq ?_
    refine AWP.seq ?_
    refine AWP.region (.cons (.assign (lt1 rfl) (.const _ _ _)) <| ARun.nil _ _ _) ?_
    refine AWP.vc (s' := ⟨[(0, .rd β1 a0.length (a0.flatMap encL59)), (1, .rd β2 a1.length (a1.flatMap encL59)), (5, .sc (.int .i64 (0 : Int)))], []⟩) (VC.sub (.c rfl <| .c rfl <| .c rfl <| .n _) (.n _)) ?_
    refine AWP.joinB' (S := fun p_17 : Unit => ⟨[], []⟩) h (fun p_17 h => ?_) (fun k_18 h => ?_)
    · refine AWP.seq ?_
      refine AWP.region (.cons (.assign (lt1 rfl) (.const _ _ _)) <| ARun.nil _ _ _) ?_
      refine AWP.ret ?_
      obtain rfl := Option.some.inj h
      refine retJ (Res.vc (s' := ⟨[(4, .sc (.bool true))], []⟩) (VC.sub (.c rfl <| .n _) (.n _)) ?_)
      refine Res.drop (H := []) rfl ?_
      exact Res.of rfl (.cons (.tmp rfl) (.nil)) rfl rfl
    · refine AWP.vc (s' := ⟨[(0, .rd β1 a0.length (a0.flatMap encL59)), (1, .rd β2 a1.length (a1.flatMap encL59)), (5, .sc (.int .i64 (0 : Int)))], []⟩) (VC.sub (.c rfl <| .c rfl <| .c rfl <| .n _) (.n _)) ?_
      refine AWP.loopM (S := fun x_11 : Int => ⟨[(0, .rd β1 a0.length (a0.flatMap encL59)), (1, .rd β2 a1.length (a1.flatMap encL59)), (5, .sc (.int .i64 x_11))], []⟩) (x := (0 : Int)) (fun nx_12 x_11 h => ?_) h
      unfold m41_L1 at h
      refine AWP.seq ?_
      refine AWP.seq ?_
      refine AWP.region (.cons (.move (lt1 rfl) (.tmp rfl)) <| .cons (.move (lt1 rfl) (.tmp rfl)) <| .cons (.lenRd (lt1 rfl) (.tmp rfl) Try.underlying26) <| .cons (.lss (lt1 rfl) (.tmp rfl) (.tmp rfl)) <| ARun.nil _ _ _) ?_
      refine AWP.vc (s' := ⟨[(0, .rd β1 a0.length (a0.flatMap encL59)), (1, .rd β2 a1.length (a1.flatMap encL59)), (5, .sc (.int .i64 x_11)), (14, .sc (.bool (decide (x_11 < (a0.length : Int)))))], []⟩) (VC.sub (.c rfl <| .c rfl <| .c rfl <| .c rfl <| .n _) (.n _)) ?_
      refine AWP.cond (.tmp rfl) (fun hc => ?_) (fun hc => ?_)
      · have h := iteT hc h
        refine AWP.skip ?_
        refine AWP.seq ?_
        refine AWP.block ?_
        refine AWP.seq ?_
        obtain ⟨y_13, hy_13, h⟩ := bindS h
        obtain ⟨y_14, hy_14, h⟩ := bindS h
        obtain ⟨y_15, hy_15, h⟩ := bindS h
        refine AWP.draw (s' := ⟨[(0, .rd β1 a0.length (a0.flatMap encL59)), (1, .rd β2 a1.length (a1.flatMap encL59)), (5, .sc (.int .i64 x_11)), (26, .sc (.bool (!y_15)))], []⟩) mixed [⟨0, .rd β1 a0.length (a0.flatMap encL59), none, []⟩, ⟨1, .rd β2 a1.length (a1.flatMap encL59), none, []⟩, ⟨5, .sc (.int .i64 x_11), none, []⟩, ⟨14, .sc (.bool (decide (x_11 < (a0.length : Int)))), none, []⟩, ⟨17, .rd β1 a0.length (a0.flatMap encL59), some 0, []⟩, ⟨18, .sc (.int .i64 x_11), some 1, []⟩, ⟨19, .rptr β1 [.rd false y_13.length (y_13.flatMap encR59)], some 2, []⟩, ⟨20, .rd β1 y_13.length (y_13.flatMap encR59), some 3, []⟩, ⟨21, .rd β2 a1.length (a1.flatMap encL59), some 4, []⟩, ⟨22, .sc (.int .i64 x_11), some 5, []⟩, ⟨23, .rptr β2 [.rd false y_14.length (y_14.flatMap encR59)], some 6, []⟩, ⟨24, .rd β2 y_14.length (y_14.flatMap encR59), some 7, []⟩, ⟨25, .sc (.bool y_15), some 8, []⟩, ⟨26, .sc (.bool (!y_15)), some 9, []⟩] [⟨[0], 0, 0, some (17, .rd β1 a0.length (a0.flatMap encL59)), []⟩, ⟨[2], 0, 0, some (18, .sc (.int .i64 x_11)), []⟩, ⟨[4, 5], 0, 0, some (19, .rptr β1 [.rd false y_13.length (y_13.flatMap encR59)]), []⟩, ⟨[6], 0, 0, some (20, .rd β1 y_13.length (y_13.flatMap encR59)), []⟩, ⟨[1], 0, 0, some (21, .rd β2 a1.length (a1.flatMap encL59)), []⟩, ⟨[2], 0, 0, some (22, .sc (.int .i64 x_11)), []⟩, ⟨[8, 9], 0, 0, some (23, .rptr β2 [.rd false y_14.length (y_14.flatMap encR59)]), []⟩, ⟨[10], 0, 0, some (24, .rd β2 y_14.length (y_14.flatMap encR59)), []⟩, ⟨[7, 11], 0, 0, some (25, .sc (.bool y_15)), []⟩, ⟨[12], 0, 0, some (26, .sc (.bool (!y_15))), []⟩] [] [[]] [[], [], [0, 1], [0, 1, 2], [], [], [4, 5], [4, 5, 6], [0, 1, 2, 3, 4, 5, 6, 7], [0, 1, 2, 3, 4, 5, 6, 7, 8]] (by kernel_rfl) (by kernel_rfl) (BornL.ok (.o <| .o <| .o <| .o <| .b rfl rfl <| .b rfl rfl <| .b rfl rfl <| .b rfl rfl <| .b rfl rfl <| .b rfl rfl <| .b rfl rfl <| .b rfl rfl <| .b rfl rfl <| .b rfl rfl <| .n)) (BaseL.ok (.o rfl <| .o rfl <| .o rfl <| .o rfl <| .b <| .b <| .b <| .b <| .b <| .b <| .b <| .b <| .b <| .b <| .n)) rfl (by decide) (allLt rfl) (.pure rfl (fun H => .put (fun E hE => .move (lt1 rfl) (.tmp (hE.at (k := 0) rfl)))) <| .pure rfl (fun H => .put (fun E hE => .move (lt1 rfl) (.tmp (hE.at (k := 0) rfl)))) <| .pure rfl (fun H => .put (fun E hE => .indexRd (enc := encL59) (lt1 rfl) (.tmp (hE.at (k := 0) rfl)) (.tmp (hE.at (k := 1) rfl)) Try.underlying26 sz25 encL59_len rfl hy_13)) <| .pure rfl (fun H => .put (fun E hE => .loadR (v := .rd β1 y_13.length (y_13.flatMap encR59)) (lt1 rfl) (.tmp (hE.at (k := 0) rfl)) one25 rfl)) <| .pure rfl (fun H => .put (fun E hE => .move (lt1 rfl) (.tmp (hE.at (k := 0) rfl)))) <| .pure rfl (fun H => .put (fun E hE => .move (lt1 rfl) (.tmp (hE.at (k := 0) rfl)))) <| .pure rfl (fun H => .put (fun E hE => .indexRd (enc := encL59) (lt1 rfl) (.tmp (hE.at (k := 0) rfl)) (.tmp (hE.at (k := 1) rfl)) Try.underlying26 sz25 encL59_len rfl hy_14)) <| .pure rfl (fun H => .put (fun E hE => .loadR (v := .rd β2 y_14.length (y_14.flatMap encR59)) (lt1 rfl) (.tmp (hE.at (k := 0) rfl)) one25 rfl)) <| .pure rfl (fun H => .put (fun E hE => .call0 (bw := false) (lt1 rfl) (c39 (β1 := β1) (β2 := β2) n y_13 y_14 hy_15) (.cons (.tmp (hE.at (k := 0) rfl)) (.ren rfl) (.cons (.tmp (hE.at (k := 1) rfl)) (.ren rfl) (.nil))) rfl)) <| .pure rfl (fun H => .put (fun E hE => .not (lt1 rfl) (.tmp (hE.at (k := 0) rfl)))) <| .nil _) (fun E hE => .c (DInv.at hE (k := 0) rfl rfl rfl) <| .c (DInv.at hE (k := 1) rfl rfl rfl) <| .c (DInv.at hE (k := 2) rfl rfl rfl) <| .c (DInv.at hE (k := 13) rfl rfl rfl) <| .n _) rfl ?_
        refine AWP.vc (s' := ⟨[(0, .rd β1 a0.length (a0.flatMap encL59)), (1, .rd β2 a1.length (a1.flatMap encL59)), (5, .sc (.int .i64 x_11)), (26, .sc (.bool (!y_15)))], []⟩) (VC.sub (.c rfl <| .c rfl <| .c rfl <| .c rfl <| .n _) (.n _)) ?_
        refine AWP.cond (.tmp rfl) (fun hc => ?_) (fun hc => ?_)
        · have h := iteT hc h
          refine AWP.seq ?_
          refine AWP.region (.cons (.assign (lt1 rfl) (.const _ _ _)) <| ARun.nil _ _ _) ?_
          refine AWP.ret ?_
          obtain rfl := Option.some.inj h
          refine retJ (Res.vc (s' := ⟨[(4, .sc (.bool false))], []⟩) (VC.sub (.c rfl <| .n _) (.n _)) ?_)
          refine Res.drop (H := []) rfl ?_
          exact Res.of rfl (.cons (.tmp rfl) (.nil)) rfl rfl
        · have h := iteF hc h
          refine AWP.skip ?_
          obtain ⟨t5_16, ht5_16, h⟩ := letS h
          refine AWP.region (.cons (.move (lt1 rfl) (.tmp rfl)) <| .cons (.add (lt1 rfl) (.tmp rfl) (.const _ _ _)) <| .cons (.assign (lt1 rfl) (.tmp rfl)) <| ARun.nil _ _ _) ?_
          exact endJ t5_16 h (by subst ht5_16; exact VC.sub (.c rfl <| .c rfl <| .c rfl <| .n _) (.n _))
      · have h := iteF hc h
        refine AWP.exit ?_
        exact endJ () h (VC.sub (.n _) (.n _))
theorem c15 {β1 : Bool} {β2 : Bool} {β3 : Bool} {β4 : Bool} (n : Nat) (a0 : R27) (a1 : R27) {r : Bool} (h : m15 n a0 a1 = some r) : Spec Try.prog 15 [] [.agg [.rd β1 a0.Outer.length (a0.Outer.flatMap encR59), .rd β2 a0.Holes.length (a0.Holes.flatMap encL59)], .agg [.rd β3 a1.Outer.length (a1.Outer.flatMap encR59), .rd β4 a1.Holes.length (a1.Holes.flatMap encL59)]] [] (.sc (.bool r)) [] := by
  refine Spec.of (fn := Try.f15) Try.func15 Try.ntmps15 rfl rfl (le1 rfl) (fun w0 Zs Zb T0 ι0 => ?_)
  unfold m15 at h
  refine AWP.seq ?_
  refine AWP.region (.cons (.box (t := 1) (n := 2) (lt1 rfl) (nm rfl) (.tmp rfl) (by first | exact ⟨rfl, rfl⟩ | rfl) rfl) <| .cons (.box (t := 2) (n := 2) (lt1 rfl) (nm rfl) (.tmp rfl) (by first | exact ⟨rfl, rfl⟩ | rfl) rfl) <| .cons (.assign (lt1 rfl) (.const _ _ _)) <| ARun.nil _ _ _) ?_
  refine AWP.vc (s' := ⟨[(2, .ptr 1 0), (3, .ptr 2 0)], [(2, ⟨28, false, [.rd β3 a1.Outer.length (a1.Outer.flatMap encR59), .rd β4 a1.Holes.length (a1.Holes.flatMap encL59)]⟩), (1, ⟨28, false, [.rd β1 a0.Outer.length (a0.Outer.flatMap encR59), .rd β2 a0.Holes.length (a0.Holes.flatMap encL59)]⟩)]⟩) (VC.sub (.c rfl <| .c rfl <| .n _) (.c rfl <| .c rfl <| .n _)) ?_
  refine AWP.seq ?_
  obtain ⟨y_1, hy_1, h⟩ := bindS h
  obtain ⟨y_2, hy_2, h⟩ := bindS h
  refine AWP.region (.cons (.fieldP (lt1 rfl) (.tmp rfl) fld28_0) <| .cons (.loadP (lt1 rfl) (.tmp rfl) one25 rfl rfl rfl) <| .cons (.fieldP (lt1 rfl) (.tmp rfl) fld28_0) <| .cons (.loadP (lt1 rfl) (.tmp rfl) one25 rfl rfl rfl) <| .cons (.call0 (bw := false) (lt1 rfl) (c39 (β1 := β1) (β2 := β3) n a0.Outer a1.Outer hy_1) (.cons (.tmp rfl) (.ren rfl) (.cons (.tmp rfl) (.ren rfl) (.nil))) rfl) <| .cons (.move (lt1 rfl) (.tmp rfl)) <| .guard (j := 5) (dj := 10) rfl (lt1 rfl) rfl (lt1 rfl) (fun hg => .fieldP (lt1 rfl) (.tmp rfl) fld28_1) <| .guard (j := 5) (dj := 10) rfl (lt1 rfl) rfl (lt1 rfl) (fun hg => .loadP (lt1 rfl) (.gd hg (.tmp rfl)) one26 rfl rfl rfl) <| .guard (j := 5) (dj := 10) rfl (lt1 rfl) rfl (lt1 rfl) (fun hg => .fieldP (lt1 rfl) (.tmp rfl) fld28_1) <| .guard (j := 5) (dj := 10) rfl (lt1 rfl) rfl (lt1 rfl) (fun hg => .loadP (lt1 rfl) (.gd hg (.tmp rfl)) one26 rfl rfl rfl) <| .guard (j := 5) (dj := 10) rfl (lt1 rfl) rfl (lt1 rfl) (fun hg => .call0 (bw := false) (lt1 rfl) (c41 (β1 := β2) (β2 := β4) n a0.Holes a1.Holes (gdB hy_2 hg)) (.cons (.gd hg (.tmp rfl)) (.ren rfl) (.cons (.gd hg (.tmp rfl)) (.ren rfl) (.nil))) rfl) <| .cons (.pickAnd (lt1 rfl) (.tmp rfl) (.tmp rfl) (.const _ _ _)) <| .cons (.assign (lt1 rfl) (.tmp rfl)) <| ARun.nil _ _ _) ?_
  refine AWP.ret ?_
  obtain rfl := Option.some.inj h
  refine retJ (Res.vc (s' := ⟨[(4, .sc (.bool (y_1 && y_2)))], []⟩) (VC.sub (.c rfl <| .n _) (.n _)) ?_)
  refine Res.drop (H := []) rfl ?_
  exact Res.of rfl (.cons (.tmp rfl) (.nil)) rfl rfl
theorem c60 {β1 : Bool} (n : Nat) (a0_b0_b0 : (List UInt8)) (a0_b0_b1 : Int) (a0_b0_b2 : Bool) (a1_b0 : Int) (a2_b0 : Int) {r : (Int × (List UInt8) × Int × Bool)} (h : m60 n a0_b0_b0 a0_b0_b1 a0_b0_b2 a1_b0 a2_b0 = some r) : Spec Try.prog 60 [1, 2, 3, 4] [.ptr 1 0, .ptr 3 0, .ptr 4 0] [(1, ⟨39, false, [.ptr 2 0]⟩), (2, ⟨82, false, [.rd β1 a0_b0_b0.length (a0_b0_b0.flatMap enc8), .sc (.int .i64 a0_b0_b1), .sc (.bool a0_b0_b2)]⟩), (3, ⟨3, false, [.sc (.int .i64 a1_b0)]⟩), (4, ⟨3, false, [.sc (.int .i64 a2_b0)]⟩)] (.sc (.int .i64 r.1)) [(1, ⟨39, false, [.ptr 2 0]⟩), (2, ⟨82, false, [.rd β1 r.2.1.length (r.2.1.flatMap enc8), .sc (.int .i64 r.2.2.1), .sc (.bool r.2.2.2)]⟩), (3, ⟨3, false, [.sc (.int .i64 a1_b0)]⟩), (4, ⟨3, false, [.sc (.int .i64 a2_b0)]⟩)] := by
  refine Spec.of (fn := Try.f60) Try.func60 Try.ntmps60 rfl rfl (le1 rfl) (fun w0 Zs Zb T0 ι0 => ?_)
  unfold m60 at h
  refine AWP.seq ?_
  refine AWP.region (.cons (.assign (lt1 rfl) (.const _ _ _)) <| ARun.nil _ _ _) ?_
  refine AWP.vc (s' := ⟨[(0, .ptr 1 0), (1, .ptr 3 0), (2, .ptr 4 0)], [(1, ⟨39, false, [.ptr 2 0]⟩), (2, ⟨82, false, [.rd β1 a0_b0_b0.length (a0_b0_b0.flatMap enc8), .sc (.int .i64 a0_b0_b1), .sc (.bool a0_b0_b2)]⟩), (3, ⟨3, false, [.sc (.int .i64 a1_b0)]⟩), (4, ⟨3, false, [.sc (.int .i64 a2_b0)]⟩)]⟩) (VC.sub (.c rfl <| .c rfl <| .c rfl <| .n _) (.c rfl <| .c rfl <| .c rfl <| .c rfl <| .n _)) ?_
  refine AWP.seq ?_
  obtain ⟨y_1, hy_1, h⟩ := bindS h
  refine AWP.region (.cons (.loadP (lt1 rfl) (.tmp rfl) one39 rfl rfl rfl) <| .cons (.call (σ := fun _ => 2) (bw := false) (lt1 rfl) (c17 (β1 := β1) n a0_b0_b0 a0_b0_b1 a0_b0_b2 hy_1) (.cons (.tmp rfl) (.ren rfl) (.nil)) (CallOk.mk' (.c rfl (.n)) rfl)) <| .cons (.assign (lt1 rfl) (.tmp rfl)) <| ARun.nil _ _ _) ?_
  refine AWP.vc (s' := ⟨[(0, .ptr 1 0), (1, .ptr 3 0), (2, .ptr 4 0), (4, .sc (.int .i64 y_1.1))], [(2, ⟨82, false, [.rd β1 y_1.2.1.length (y_1.2.1.flatMap enc8), .sc (.int .i64 y_1.2.2.1), .sc (.bool y_1.2.2.2)]⟩), (1, ⟨39, false, [.ptr 2 0]⟩), (3, ⟨3, false, [.sc (.int .i64 a1_b0)]⟩), (4, ⟨3, false, [.sc (.int .i64 a2_b0)]⟩)]⟩) (VC.sub (.c rfl <| .c rfl <| .c rfl <| .c rfl <| .n _) (.c rfl <| .c rfl <| .c rfl <| .c rfl <| .n _)) ?_
  refine AWP.seq ?_
  refine AWP.draw (s' := ⟨[(4, .sc (.int .i64 y_1.1))], [(2, ⟨82, false, [.rd β1 y_1.2.1.length (y_1.2.1.flatMap enc8), .sc (.int .i64 y_1.2.2.1), .sc (.bool ((y_1.2.2.2 || (decide (y_1.1 < a1_b0))) || (decide (a2_b0 < y_1.1))))]⟩), (1, ⟨39, false, [.ptr 2 0]⟩), (3, ⟨3, false, [.sc (.int .i64 a1_b0)]⟩), (4, ⟨3, false, [.sc (.int .i64 a2_b0)]⟩)]⟩) mixed [⟨0, .ptr 1 0, none, []⟩, ⟨1, .ptr 3 0, none, []⟩, ⟨2, .ptr 4 0, none, []⟩, ⟨4, .sc (.int .i64 y_1.1), none, []⟩, ⟨7, .ptr 2 0, some 0, []⟩, ⟨8, .ptr 2 0, some 1, []⟩, ⟨9, .ptr 2 0, some 2, []⟩, ⟨10, .ptr 2 (0 + 2), some 3, []⟩, ⟨11, .sc (.bool y_1.2.2.2), some 4, []⟩, ⟨12, .sc (.bool y_1.2.2.2), some 5, []⟩, ⟨13, .gd (!y_1.2.2.2) (.sc (.int .i64 y_1.1)), some 6, []⟩, ⟨14, .gd (!y_1.2.2.2) (.sc (.int .i64 a1_b0)), some 7, []⟩, ⟨15, .gd (!y_1.2.2.2) (.sc (.bool (decide (y_1.1 < a1_b0)))), some 8, []⟩, ⟨16, .sc (.bool (y_1.2.2.2 || (decide (y_1.1 < a1_b0)))), some 9, []⟩, ⟨17, .sc (.bool (y_1.2.2.2 || (decide (y_1.1 < a1_b0)))), some 10, []⟩, ⟨18, .gd (!(y_1.2.2.2 || (decide (y_1.1 < a1_b0)))) (.sc (.int .i64 y_1.1)), some 11, []⟩, ⟨19, .gd (!(y_1.2.2.2 || (decide (y_1.1 < a1_b0)))) (.sc (.int .i64 a2_b0)), some 12, []⟩, ⟨20, .gd (!(y_1.2.2.2 || (decide (y_1.1 < a1_b0)))) (.sc (.bool (decide (a2_b0 < y_1.1)))), some 13, []⟩, ⟨21, .sc (.bool ((y_1.2.2.2 || (decide (y_1.1 < a1_b0))) || (decide (a2_b0 < y_1.1)))), some 14, []⟩, ⟨22, .ptr 2 0, some 15, []⟩, ⟨23, .ptr 2 (0 + 2), some 16, []⟩] [⟨[0], 0, 0, some (7, .ptr 2 0), []⟩, ⟨[0], 0, 0, some (8, .ptr 2 0), []⟩, ⟨[5], 0, 0, some (9, .ptr 2 0), []⟩, ⟨[6], 0, 0, some (10, .ptr 2 (0 + 2)), []⟩, ⟨[7], 0, 0, some (11, .sc (.bool y_1.2.2.2)), []⟩, ⟨[8], 0, 1, some (12, .sc (.bool y_1.2.2.2)), []⟩, ⟨[9, 3], 0, 1, some (13, .gd (!y_1.2.2.2) (.sc (.int .i64 y_1.1))), []⟩, ⟨[9, 1], 0, 0, some (14, .gd (!y_1.2.2.2) (.sc (.int .i64 a1_b0))), []⟩, ⟨[9, 10, 11], 0, 1, some (15, .gd (!y_1.2.2.2) (.sc (.bool (decide (y_1.1 < a1_b0))))), []⟩, ⟨[9, 12], 0, 1, some (16, .sc (.bool (y_1.2.2.2 || (decide (y_1.1 < a1_b0))))), []⟩, ⟨[13], 0, 1, some (17, .sc (.bool (y_1.2.2.2 || (decide (y_1.1 < a1_b0))))), []⟩, ⟨[14, 3], 0, 1, some (18, .gd (!(y_1.2.2.2 || (decide (y_1.1 < a1_b0)))) (.sc (.int .i64 y_1.1))), []⟩, ⟨[14, 2], 0, 0, some (19, .gd (!(y_1.2.2.2 || (decide (y_1.1 < a1_b0)))) (.sc (.int .i64 a2_b0))), []⟩, ⟨[14, 15, 16], 0, 1, some (20, .gd (!(y_1.2.2.2 || (decide (y_1.1 < a1_b0)))) (.sc (.bool (decide (a2_b0 < y_1.1))))), []⟩, ⟨[14, 17], 0, 1, some (21, .sc (.bool ((y_1.2.2.2 || (decide (y_1.1 < a1_b0))) || (decide (a2_b0 < y_1.1))))), []⟩, ⟨[4], 0, 0, some (22, .ptr 2 0), []⟩, ⟨[19], 0, 0, some (23, .ptr 2 (0 + 2)), []⟩, ⟨[20, 18], 0, 0, none, []⟩] [17] [[(2, ⟨82, false, [.rd β1 y_1.2.1.length (y_1.2.1.flatMap enc8), .sc (.int .i64 y_1.2.2.1), .sc (.bool y_1.2.2.2)]⟩), (1, ⟨39, false, [.ptr 2 0]⟩), (3, ⟨3, false, [.sc (.int .i64 a1_b0)]⟩), (4, ⟨3, false, [.sc (.int .i64 a2_b0)]⟩)], [(2, ⟨82, false, [.rd β1 y_1.2.1.length (y_1.2.1.flatMap enc8), .sc (.int .i64 y_1.2.2.1), .sc (.bool ((y_1.2.2.2 || (decide (y_1.1 < a1_b0))) || (decide (a2_b0 < y_1.1))))]⟩), (1, ⟨39, false, [.ptr 2 0]⟩), (3, ⟨3, false, [.sc (.int .i64 a1_b0)]⟩), (4, ⟨3, false, [.sc (.int .i64 a2_b0)]⟩)]] [[], [], [1], [1, 2], [1, 2, 3], [1, 2, 3, 4], [1, 2, 3, 4, 5], [1, 2, 3, 4, 5], [1, 2, 3, 4, 5, 6, 7], [1, 2, 3, 4, 5, 6, 7, 8], [1, 2, 3, 4, 5, 6, 7, 8, 9], [1, 2, 3, 4, 5, 6, 7, 8, 9, 10], [1, 2, 3, 4, 5, 6, 7, 8, 9, 10], [1, 2, 3, 4, 5, 6, 7, 8, 9, 10, 11, 12], [1, 2, 3, 4, 5, 6, 7, 8, 9, 10, 11, 12, 13], [0, 1, 2, 3, 4, 5, 6, 7, 8, 9, 10, 11, 12, 13, 14], [0, 1, 2, 3, 4, 5, 6, 7, 8, 9, 10, 11, 12, 13, 14, 15], [0, 1, 2, 3, 4, 5, 6, 7, 8, 9, 10, 11, 12, 13, 14, 15, 16]] (by kernel_rfl) (by kernel_rfl) (BornL.ok (.o <| .o <| .o <| .o <| .b rfl rfl <| .b rfl rfl <| .b rfl rfl <| .b rfl rfl <| .b rfl rfl <| .b rfl rfl <| .b rfl rfl <| .b rfl rfl <| .b rfl rfl <| .b rfl rfl <| .b rfl rfl <| .b rfl rfl <| .b rfl rfl <| .b rfl rfl <| .b rfl rfl <| .b rfl rfl <| .b rfl rfl <| .n)) (BaseL.ok (.o rfl <| .o rfl <| .o rfl <| .o rfl <| .b <| .b <| .b <| .b <| .b <| .b <| .b <| .b <| .b <| .b <| .b <| .b <| .b <| .b <| .b <| .b <| .b <| .n)) rfl (by decide) (allLt rfl) (.read rfl (.c (.put (fun E hE => .loadP (lt1 rfl) (.tmp (hE.at (k := 0) rfl)) one39 rfl rfl rfl)) (.n)) <| .read rfl (.c (.put (fun E hE => .loadP (lt1 rfl) (.tmp (hE.at (k := 0) rfl)) one39 rfl rfl rfl)) (.n)) <| .read rfl (.c (.put (fun E hE => .nilCheck (lt1 rfl) (.tmp (hE.at (k := 0) rfl)) trivial)) (.n)) <| .read rfl (.c (.put (fun E hE => .fieldP (lt1 rfl) (.tmp (hE.at (k := 0) rfl)) fld82_2)) (.n)) <| .read rfl (.c (.put (fun E hE => .loadP (lt1 rfl) (.tmp (hE.at (k := 0) rfl)) one4 rfl rfl rfl)) (.n)) <| .pure rfl (fun H => .put (fun E hE => .move (lt1 rfl) (.tmp (hE.at (k := 0) rfl)))) <| .pure rfl (fun H => .gput (b := y_1.2.2.2) (want := false) (j := 5) (dj := 12) rfl (lt1 rfl) (lt1 rfl) (fun E hE => hE.at (k := 0) rfl) (fun hg E hE => .move (lt1 rfl) (.tmp (hE.at (k := 1) rfl)))) <| .read rfl (.c (.gput (b := y_1.2.2.2) (want := false) (j := 5) (dj := 12) rfl (lt1 rfl) (lt1 rfl) (fun E hE => hE.at (k := 0) rfl) (fun hg E hE => .loadP (lt1 rfl) (.tmp (hE.at (k := 1) rfl)) one3 rfl rfl rfl)) (.n)) <| .pure rfl (fun H => .gput (b := y_1.2.2.2) (want := false) (j := 5) (dj := 12) rfl (lt1 rfl) (lt1 rfl) (fun E hE => hE.at (k := 0) rfl) (fun hg E hE => .lss (lt1 rfl) (.gd hg (.tmp (hE.at (k := 1) rfl))) (.gd hg (.tmp (hE.at (k := 2) rfl))))) <| .pure rfl (fun H => .put (fun E hE => .pickOr (lt1 rfl) (.tmp (hE.at (k := 0) rfl)) (.const _ _ _) (.tmp (hE.at (k := 1) rfl)))) <| .pure rfl (fun H => .put (fun E hE => .move (lt1 rfl) (.tmp (hE.at (k := 0) rfl)))) <| .pure rfl (fun H => .gput (b := (y_1.2.2.2 || (decide (y_1.1 < a1_b0)))) (want := false) (j := 10) (dj := 17) rfl (lt1 rfl) (lt1 rfl) (fun E hE => hE.at (k := 0) rfl) (fun hg E hE => .move (lt1 rfl) (.tmp (hE.at (k := 1) rfl)))) <| .read rfl (.c (.gput (b := (y_1.2.2.2 || (decide (y_1.1 < a1_b0)))) (want := false) (j := 10) (dj := 17) rfl (lt1 rfl) (lt1 rfl) (fun E hE => hE.at (k := 0) rfl) (fun hg E hE => .loadP (lt1 rfl) (.tmp (hE.at (k := 1) rfl)) one3 rfl rfl rfl)) (.n)) <| .pure rfl (fun H => .gput (b := (y_1.2.2.2 || (decide (y_1.1 < a1_b0)))) (want := false) (j := 10) (dj := 17) rfl (lt1 rfl) (lt1 rfl) (fun E hE => hE.at (k := 0) rfl) (fun hg E hE => .gtr (lt1 rfl) (.gd hg (.tmp (hE.at (k := 1) rfl))) (.gd hg (.tmp (hE.at (k := 2) rfl))))) <| .pure rfl (fun H => .put (fun E hE => .pickOr (lt1 rfl) (.tmp (hE.at (k := 0) rfl)) (.const _ _ _) (.tmp (hE.at (k := 1) rfl)))) <| .read rfl (.c (.put (fun E hE => .nilCheck (lt1 rfl) (.tmp (hE.at (k := 0) rfl)) trivial)) (.n)) <| .read rfl (.c (.put (fun E hE => .fieldP (lt1 rfl) (.tmp (hE.at (k := 0) rfl)) fld82_2)) (.n)) <| .turn rfl rfl rfl rfl rfl (.store (fun E hE => .storeP (.tmp (hE.at (k := 0) rfl)) (.tmp (hE.at (k := 1) rfl)) sz4 rfl (lt1 rfl) rfl (by intro h; cases h) rfl) rfl) <| .nil _) (fun E hE => .c (DInv.at hE (k := 3) rfl rfl rfl) <| .n _) rfl ?_
  refine AWP.vc (s' := ⟨[(4, .sc (.int .i64 y_1.1))], [(2, ⟨82, false, [.rd β1 y_1.2.1.length (y_1.2.1.flatMap enc8), .sc (.int .i64 y_1.2.2.1), .sc (.bool ((y_1.2.2.2 || (decide (y_1.1 < a1_b0))) || (decide (a2_b0 < y_1.1))))]⟩), (1, ⟨39, false, [.ptr 2 0]⟩), (3, ⟨3, false, [.sc (.int .i64 a1_b0)]⟩), (4, ⟨3, false, [.sc (.int .i64 a2_b0)]⟩)]⟩) (VC.sub (.c rfl <| .n _) (.c rfl <| .c rfl <| .c rfl <| .c rfl <| .n _)) ?_
  refine AWP.seq ?_
  refine AWP.region (.cons (.move (lt1 rfl) (.tmp rfl)) <| .cons (.assign (lt1 rfl) (.tmp rfl)) <| ARun.nil _ _ _) ?_
  refine AWP.ret ?_
  obtain rfl := Option.some.inj h
  refine retJ (Res.vc (s' := ⟨[(3, .sc (.int .i64 y_1.1))], [(1, ⟨39, false, [.ptr 2 0]⟩), (2, ⟨82, false, [.rd β1 y_1.2.1.length (y_1.2.1.flatMap enc8), .sc (.int .i64 y_1.2.2.1), .sc (.bool ((y_1.2.2.2 || (decide (y_1.1 < a1_b0))) || (decide (a2_b0 < y_1.1))))]⟩), (3, ⟨3, false, [.sc (.int .i64 a1_b0)]⟩), (4, ⟨3, false, [.sc (.int .i64 a2_b0)]⟩)]⟩) (VC.sub (.c rfl <| .n _) (.c rfl <| .c rfl <| .c rfl <| .c rfl <| .n _)) ?_)
  refine Res.sub (H := [(1, ⟨39, false, [.ptr 2 0]⟩), (2, ⟨82, false, [.rd β1 y_1.2.1.length (y_1.2.1.flatMap enc8), .sc (.int .i64 y_1.2.2.1), .sc (.bool ((y_1.2.2.2 || (decide (y_1.1 < a1_b0))) || (decide (a2_b0 < y_1.1))))]⟩), (3, ⟨3, false, [.sc (.int .i64 a1_b0)]⟩), (4, ⟨3, false, [.sc (.int .i64 a2_b0)]⟩)]) (.c rfl <| .c rfl <| .c rfl <| .c rfl <| .n _) ?_
  exact Res.of rfl (.cons (.tmp rfl) (.nil)) rfl rfl
theorem c43x1 {β1 : Bool} (n : Nat) (a0_b0 : (List UInt8)) (a0_b1 : Int) (a0_b2 : Bool) (a1_1_b0 : Int) (a1_2_b0 : Int) {r : (Int × (List UInt8) × Int × Bool)} (h : m43x1 n a0_b0 a0_b1 a0_b2 a1_1_b0 a1_2_b0 = some r) : Spec Try.prog 43 [1, 2, 3, 4] [.ptr 1 0, .clo (.func 60) [] [.ptr 2 0, .ptr 3 0, .ptr 4 0]] [(1, ⟨82, false, [.rd β1 a0_b0.length (a0_b0.flatMap enc8), .sc (.int .i64 a0_b1), .sc (.bool a0_b2)]⟩), (2, ⟨39, false, [.ptr 1 0]⟩), (3, ⟨3, false, [.sc (.int .i64 a1_1_b0)]⟩), (4, ⟨3, false, [.sc (.int .i64 a1_2_b0)]⟩)] (.sc (.int .i64 r.1)) [(1, ⟨82, false, [.rd β1 r.2.1.length (r.2.1.flatMap enc8), .sc (.int .i64 r.2.2.1), .sc (.bool r.2.2.2)]⟩), (2, ⟨39, false, [.ptr 1 0]⟩), (3, ⟨3, false, [.sc (.int .i64 a1_1_b0)]⟩), (4, ⟨3, false, [.sc (.int .i64 a1_2_b0)]⟩)] := by
  refine Spec.of (fn := Try.f43) Try.func43 Try.ntmps43 rfl rfl (le1 rfl) (fun w0 Zs Zb T0 ι0 => ?_)
  unfold m43x1 at h
  refine AWP.seq ?_
  refine AWP.region (.cons (.assign (lt1 rfl) (.const _ _ _)) <| ARun.nil _ _ _) ?_
  refine AWP.vc (s' := ⟨[(0, .ptr 1 0), (1, .clo (.func 60) [] [.ptr 2 0, .ptr 3 0, .ptr 4 0])], [(1, ⟨82, false, [.rd β1 a0_b0.length (a0_b0.flatMap enc8), .sc (.int .i64 a0_b1), .sc (.bool a0_b2)]⟩), (2, ⟨39, false, [.ptr 1 0]⟩), (3, ⟨3, false, [.sc (.int .i64 a1_1_b0)]⟩), (4, ⟨3, false, [.sc (.int .i64 a1_2_b0)]⟩)]⟩) (VC.sub (.c rfl <| .c rfl <| .n _) (.c rfl <| .c rfl <| .c rfl <| .c rfl <| .n _)) ?_
  refine AWP.seq ?_
  refine AWP.region (.cons (.assign (lt1 rfl) (.const _ _ _)) <| ARun.nil _ _ _) ?_
  refine AWP.vc (s' := ⟨[(0, .ptr 1 0), (1, .clo (.func 60) [] [.ptr 2 0, .ptr 3 0, .ptr 4 0]), (5, .sc (.int .i64 (0 : Int)))], [(1, ⟨82, false, [.rd β1 a0_b0.length (a0_b0.flatMap enc8), .sc (.int .i64 a0_b1), .sc (.bool a0_b2)]⟩), (2, ⟨39, false, [.ptr 1 0]⟩), (3, ⟨3, false, [.sc (.int .i64 a1_1_b0)]⟩), (4, ⟨3, false, [.sc (.int .i64 a1_2_b0)]⟩)]⟩) (VC.sub (.c rfl <| .c rfl <| .c rfl <| .n _) (.c rfl <| .c rfl <| .c rfl <| .c rfl <| .n _)) ?_
  refine AWP.seq ?_
  refine AWP.seq ?_
  refine AWP.region (.cons (.move (lt1 rfl) (.tmp rfl)) <| .cons (.ptrNil0 (lt1 rfl) (.tmp rfl) Try.underlying39) <| .cons (.move (lt1 rfl) (.tmp rfl)) <| .guardT (j := 2) (dj := 10) rfl (lt1 rfl) rfl rfl (.move (lt1 rfl) (.tmp rfl)) <| .guardT (j := 2) (dj := 10) rfl (lt1 rfl) rfl rfl (.nilCheck (lt1 rfl) (.tmp rfl) trivial) <| .guardT (j := 2) (dj := 10) rfl (lt1 rfl) rfl rfl (.fieldP (lt1 rfl) (.tmp rfl) fld82_2) <| .guardT (j := 2) (dj := 10) rfl (lt1 rfl) rfl rfl (.loadP (lt1 rfl) (.tmp rfl) one4 rfl rfl rfl) <| .cons (.pickF (lt1 rfl) (.tmp rfl) rfl (.tmp rfl)) <| ARun.nil _ _ _) ?_
  refine AWP.vc (s' := ⟨[(0, .ptr 1 0), (1, .clo (.func 60) [] [.ptr 2 0, .ptr 3 0, .ptr 4 0]), (5, .sc (.int .i64 (0 : Int))), (15, .sc (.bool a0_b2))], [(1, ⟨82, false, [.rd β1 a0_b0.length (a0_b0.flatMap enc8), .sc (.int .i64 a0_b1), .sc (.bool a0_b2)]⟩), (2, ⟨39, false, [.ptr 1 0]⟩), (3, ⟨3, false, [.sc (.int .i64 a1_1_b0)]⟩), (4, ⟨3, false, [.sc (.int .i64 a1_2_b0)]⟩)]⟩) (VC.sub (.c rfl <| .c rfl <| .c rfl <| .c rfl <| .n _) (.c rfl <| .c rfl <| .c rfl <| .c rfl <| .n _)) ?_
  refine AWP.cond (.tmp rfl) (fun hc => ?_) (fun hc => ?_)
  · have h := iteT hc h
    refine AWP.seq ?_
    refine AWP.region (.cons (.move (lt1 rfl) (.tmp rfl)) <| .cons (.assign (lt1 rfl) (.tmp rfl)) <| ARun.nil _ _ _) ?_
    refine AWP.ret ?_
    obtain rfl := Option.some.inj h
    refine retJ (Res.vc (s' := ⟨[(4, .sc (.int .i64 (0 : Int)))], [(1, ⟨82, false, [.rd β1 a0_b0.length (a0_b0.flatMap enc8), .sc (.int .i64 a0_b1), .sc (.bool a0_b2)]⟩), (2, ⟨39, false, [.ptr 1 0]⟩), (3, ⟨3, false, [.sc (.int .i64 a1_1_b0)]⟩), (4, ⟨3, false, [.sc (.int .i64 a1_2_b0)]⟩)]⟩) (VC.sub (.c rfl <| .n _) (.c rfl <| .c rfl <| .c rfl <| .c rfl <| .n _)) ?_)
    refine Res.sub (H := [(1, ⟨82, false, [.rd β1 a0_b0.length (a0_b0.flatMap enc8), .sc (.int .i64 a0_b1), .sc (.bool a0_b2)]⟩), (2, ⟨39, false, [.ptr 1 0]⟩), (3, ⟨3, false, [.sc (.int .i64 a1_1_b0)]⟩), (4, ⟨3, false, [.sc (.int .i64 a1_2_b0)]⟩)]) (.c rfl <| .c rfl <| .c rfl <| .c rfl <| .n _) ?_
    exact Res.of rfl (.cons (.tmp rfl) (.nil)) rfl rfl
  · have h := iteF hc h
    refine AWP.skip ?_
    refine AWP.seq ?_
    refine AWP.region (.cons (.move (lt1 rfl) (.tmp rfl)) <| .cons (.nilCheck (lt1 rfl) (.tmp rfl) trivial) <| .cons (.fieldP (lt1 rfl) (.tmp rfl) fld82_1) <| .cons (.loadP (lt1 rfl) (.tmp rfl) one3 rfl rfl rfl) <| .cons (.assign (lt1 rfl) (.tmp rfl)) <| ARun.nil _ _ _) ?_
    refine AWP.vc (s' := ⟨[(0, .ptr 1 0), (1, .clo (.func 60) [] [.ptr 2 0, .ptr 3 0, .ptr 4 0]), (5, .sc (.int .i64 (0 : Int))), (6, .sc (.int .i64 a0_b1))], [(1, ⟨82, false, [.rd β1 a0_b0.length (a0_b0.flatMap enc8), .sc (.int .i64 a0_b1), .sc (.bool a0_b2)]⟩), (2, ⟨39, false, [.ptr 1 0]⟩), (3, ⟨3, false, [.sc (.int .i64 a1_1_b0)]⟩), (4, ⟨3, false, [.sc (.int .i64 a1_2_b0)]⟩)]⟩) (VC.sub (.c rfl <| .c rfl <| .c rfl <| .c rfl <| .n _) (.c rfl <| .c rfl <| .c rfl <| .c rfl <| .n _)) ?_
    refine AWP.seq ?_
    obtain ⟨y_1, hy_1, h⟩ := bindS h
    refine AWP.region (.cons (.move (lt1 rfl) (.tmp rfl)) <| .cons (.callV (us' := []) (avs := []) (cs' := [.ptr 1 0, .ptr 3 0, .ptr 4 0]) (σ := sgT [(1, 2), (2, 1), (3, 3), (4, 4)]) (bw := false) (lt1 rfl) (.tmp rfl) (c60 (β1 := β1) n a0_b0 a0_b1 a0_b2 a1_1_b0 a1_2_b0 hy_1) (.nil) (.nil) (.cons (.ren rfl) (.cons (.ren rfl) (.cons (.ren rfl) (.nil)))) (CallOk.mk' (.c rfl (.c rfl (.c rfl (.c rfl (.n))))) rfl) (fun _ h => by cases h)) <| .cons (.assign (lt1 rfl) (.tmp rfl)) <| ARun.nil _ _ _) ?_
    refine AWP.vc (s' := ⟨[(0, .ptr 1 0), (5, .sc (.int .i64 (0 : Int))), (6, .sc (.int .i64 a0_b1)), (7, .sc (.int .i64 y_1.1))], [(2, ⟨39, false, [.ptr 1 0]⟩), (1, ⟨82, false, [.rd β1 y_1.2.1.length (y_1.2.1.flatMap enc8), .sc (.int .i64 y_1.2.2.1), .sc (.bool y_1.2.2.2)]⟩), (3, ⟨3, false, [.sc (.int .i64 a1_1_b0)]⟩), (4, ⟨3, false, [.sc (.int .i64 a1_2_b0)]⟩)]⟩) (VC.sub (.c rfl <| .c rfl <| .c rfl <| .c rfl <| .n _) (.c rfl <| .c rfl <| .c rfl <| .c rfl <| .n _)) ?_
    refine AWP.seq ?_
    refine AWP.seq ?_
    refine AWP.region (.cons (.move (lt1 rfl) (.tmp rfl)) <| .cons (.nilCheck (lt1 rfl) (.tmp rfl) trivial) <| .cons (.fieldP (lt1 rfl) (.tmp rfl) fld82_2) <| .cons (.loadP (lt1 rfl) (.tmp rfl) one4 rfl rfl rfl) <| ARun.nil _ _ _) ?_
    refine AWP.vc (s' := ⟨[(0, .ptr 1 0), (5, .sc (.int .i64 (0 : Int))), (6, .sc (.int .i64 a0_b1)), (7, .sc (.int .i64 y_1.1)), (26, .sc (.bool y_1.2.2.2))], [(2, ⟨39, false, [.ptr 1 0]⟩), (1, ⟨82, false, [.rd β1 y_1.2.1.length (y_1.2.1.flatMap enc8), .sc (.int .i64 y_1.2.2.1), .sc (.bool y_1.2.2.2)]⟩), (3, ⟨3, false, [.sc (.int .i64 a1_1_b0)]⟩), (4, ⟨3, false, [.sc (.int .i64 a1_2_b0)]⟩)]⟩) (VC.sub (.c rfl <| .c rfl <| .c rfl <| .c rfl <| .c rfl <| .n _) (.c rfl <| .c rfl <| .c rfl <| .c rfl <| .n _)) ?_
    refine AWP.cond (.tmp rfl) (fun hc => ?_) (fun hc => ?_)
    · have h := iteT hc h
      refine AWP.seq ?_
      refine AWP.region (.cons (.move (lt1 rfl) (.tmp rfl)) <| .cons (.move (lt1 rfl) (.tmp rfl)) <| .cons (.nilCheck (lt1 rfl) (.tmp rfl) trivial) <| .cons (.fieldP (lt1 rfl) (.tmp rfl) fld82_1) <| .cons (.storeP (.tmp rfl) (.tmp rfl) sz3 rfl (lt1 rfl) rfl (by intro h; cases h) rfl) <| ARun.nil _ _ _) ?_
      refine AWP.vc (s' := ⟨[(5, .sc (.int .i64 (0 : Int)))], [(2, ⟨39, false, [.ptr 1 0]⟩), (1, ⟨82, false, [.rd β1 y_1.2.1.length (y_1.2.1.flatMap enc8), .sc (.int .i64 a0_b1), .sc (.bool y_1.2.2.2)]⟩), (3, ⟨3, false, [.sc (.int .i64 a1_1_b0)]⟩), (4, ⟨3, false, [.sc (.int .i64 a1_2_b0)]⟩)]⟩) (VC.sub (.c rfl <| .n _) (.c rfl <| .c rfl <| .c rfl <| .c rfl <| .n _)) ?_
      refine AWP.seq ?_
      refine AWP.region (.cons (.move (lt1 rfl) (.tmp rfl)) <| .cons (.assign (lt1 rfl) (.tmp rfl)) <| ARun.nil _ _ _) ?_
      refine AWP.ret ?_
      obtain rfl := Option.some.inj h
      refine retJ (Res.vc (s' := ⟨[(4, .sc (.int .i64 (0 : Int)))], [(1, ⟨82, false, [.rd β1 y_1.2.1.length (y_1.2.1.flatMap enc8), .sc (.int .i64 a0_b1), .sc (.bool y_1.2.2.2)]⟩), (2, ⟨39, false, [.ptr 1 0]⟩), (3, ⟨3, false, [.sc (.int .i64 a1_1_b0)]⟩), (4, ⟨3, false, [.sc (.int .i64 a1_2_b0)]⟩)]⟩) (VC.sub (.c rfl <| .n _) (.c rfl <| .c rfl <| .c rfl <| .c rfl <| .n _)) ?_)
      refine Res.sub (H := [(1, ⟨82, false, [.rd β1 y_1.2.1.length (y_1.2.1.flatMap enc8), .sc (.int .i64 a0_b1), .sc (.bool y_1.2.2.2)]⟩), (2, ⟨39, false, [.ptr 1 0]⟩), (3, ⟨3, false, [.sc (.int .i64 a1_1_b0)]⟩), (4, ⟨3, false, [.sc (.int .i64 a1_2_b0)]⟩)]) (.c rfl <| .c rfl <| .c rfl <| .c rfl <| .n _) ?_
      exact Res.of rfl (.cons (.tmp rfl) (.nil)) rfl rfl
    · have h := iteF hc h
      refine AWP.skip ?_
      refine AWP.seq ?_
      refine AWP.region (.cons (.move (lt1 rfl) (.tmp rfl)) <| .cons (.assign (lt1 rfl) (.tmp rfl)) <| ARun.nil _ _ _) ?_
      refine AWP.ret ?_
      obtain rfl := Option.some.inj h
      refine retJ (Res.vc (s' := ⟨[(4, .sc (.int .i64 y_1.1))], [(1, ⟨82, false, [.rd β1 y_1.2.1.length (y_1.2.1.flatMap enc8), .sc (.int .i64 y_1.2.2.1), .sc (.bool y_1.2.2.2)]⟩), (2, ⟨39, false, [.ptr 1 0]⟩), (3, ⟨3, false, [.sc (.int .i64 a1_1_b0)]⟩), (4, ⟨3, false, [.sc (.int .i64 a1_2_b0)]⟩)]⟩) (VC.sub (.c rfl <| .n _) (.c rfl <| .c rfl <| .c rfl <| .c rfl <| .n _)) ?_)
      refine Res.sub (H := [(1, ⟨82, false, [.rd β1 y_1.2.1.length (y_1.2.1.flatMap enc8), .sc (.int .i64 y_1.2.2.1), .sc (.bool y_1.2.2.2)]⟩), (2, ⟨39, false, [.ptr 1 0]⟩), (3, ⟨3, false, [.sc (.int .i64 a1_1_b0)]⟩), (4, ⟨3, false, [.sc (.int .i64 a1_2_b0)]⟩)]) (.c rfl <| .c rfl <| .c rfl <| .c rfl <| .n _) ?_
      exact Res.of rfl (.cons (.tmp rfl) (.nil)) rfl rfl
theorem c25 {β1 : Bool} (n : Nat) (a0_b0 : (List UInt8)) (a0_b1 : Int) (a0_b2 : Bool) (a1 : Int) (a2 : Int) {r : (Int × (List UInt8) × Int × Bool)} (h : m25 n a0_b0 a0_b1 a0_b2 a1 a2 = some r) : Spec Try.prog 25 [1] [.ptr 1 0, .sc (.int .i64 a1), .sc (.int .i64 a2)] [(1, ⟨82, false, [.rd β1 a0_b0.length (a0_b0.flatMap enc8), .sc (.int .i64 a0_b1), .sc (.bool a0_b2)]⟩)] (.sc (.int .i64 r.1)) [(1, ⟨82, false, [.rd β1 r.2.1.length (r.2.1.flatMap enc8), .sc (.int .i64 r.2.2.1), .sc (.bool r.2.2.2)]⟩)] := by
  refine Spec.of (fn := Try.f25) Try.func25 Try.ntmps25 rfl rfl (le1 rfl) (fun w0 Zs Zb T0 ι0 => ?_)
  unfold m25 at h
  refine AWP.seq ?_
  refine AWP.region (.cons (.box (t := 2) (n := 1) (lt1 rfl) (nm rfl) (.tmp rfl) (by first | exact ⟨rfl, rfl⟩ | rfl) rfl) <| .cons (.box (t := 3) (n := 1) (lt1 rfl) (nm rfl) (.tmp rfl) (by first | exact ⟨rfl, rfl⟩ | rfl) rfl) <| .cons (.box (t := 4) (n := 1) (lt1 rfl) (nm rfl) (.tmp rfl) (by first | exact ⟨rfl, rfl⟩ | rfl) rfl) <| .cons (.assign (lt1 rfl) (.const _ _ _)) <| ARun.nil _ _ _) ?_
  refine AWP.vc (s' := ⟨[(3, .ptr 2 0), (4, .ptr 3 0), (5, .ptr 4 0)], [(4, ⟨3, false, [.sc (.int .i64 a2)]⟩), (3, ⟨3, false, [.sc (.int .i64 a1)]⟩), (2, ⟨39, false, [.ptr 1 0]⟩), (1, ⟨82, false, [.rd β1 a0_b0.length (a0_b0.flatMap enc8), .sc (.int .i64 a0_b1), .sc (.bool a0_b2)]⟩)]⟩) (VC.sub (.c rfl <| .c rfl <| .c rfl <| .n _) (.c rfl <| .c rfl <| .c rfl <| .c rfl <| .n _)) ?_
  refine AWP.seq ?_
  obtain ⟨y_1, hy_1, h⟩ := bindS h
  refine AWP.region (.cons (.loadP (lt1 rfl) (.tmp rfl) one39 rfl rfl rfl) <| .cons (.makeFunc (lt1 rfl) (.nil) (.cons (.tmp rfl) (.cons (.tmp rfl) (.cons (.tmp rfl) (.nil))))) <| .cons (.call (σ := sgT [(1, 1), (2, 2), (3, 3), (4, 4)]) (bw := false) (lt1 rfl) (c43x1 (β1 := β1) n a0_b0 a0_b1 a0_b2 a1 a2 hy_1) (.cons (.tmp rfl) (.ren rfl) (.cons (.tmp rfl) (.ren rfl) (.nil))) (CallOk.mk' (.c rfl (.c rfl (.c rfl (.c rfl (.n))))) rfl)) <| .cons (.assign (lt1 rfl) (.tmp rfl)) <| ARun.nil _ _ _) ?_
  refine AWP.ret ?_
  obtain rfl := Option.some.inj h
  refine retJ (Res.vc (s' := ⟨[(6, .sc (.int .i64 y_1.1))], [(1, ⟨82, false, [.rd β1 y_1.2.1.length (y_1.2.1.flatMap enc8), .sc (.int .i64 y_1.2.2.1), .sc (.bool y_1.2.2.2)]⟩)]⟩) (VC.sub (.c rfl <| .n _) (.c rfl <| .n _)) ?_)
  refine Res.sub (H := [(1, ⟨82, false, [.rd β1 y_1.2.1.length (y_1.2.1.flatMap enc8), .sc (.int .i64 y_1.2.2.1), .sc (.bool y_1.2.2.2)]⟩)]) (.c rfl <| .n _) ?_
  exact Res.of rfl (.cons (.tmp rfl) (.nil)) rfl rfl
theorem c64 {β1 : Bool} (n : Nat) (a0_b0_b0 : (List UInt8)) (a0_b0_b1 : Int) (a0_b0_b2 : Bool) (a1_b0 : Int) {r : ((List UInt8) × (List UInt8) × Int × Bool)} (h : m64 n a0_b0_b0 a0_b0_b1 a0_b0_b2 a1_b0 = some r) : Spec Try.prog 64 [1, 2, 3] [.ptr 1 0, .ptr 3 0] [(1, ⟨39, false, [.ptr 2 0]⟩), (2, ⟨82, false, [.rd β1 a0_b0_b0.length (a0_b0_b0.flatMap enc8), .sc (.int .i64 a0_b0_b1), .sc (.bool a0_b0_b2)]⟩), (3, ⟨3, false, [.sc (.int .i64 a1_b0)]⟩)] (.rd false r.1.length (r.1.flatMap enc8)) [(1, ⟨39, false, [.ptr 2 0]⟩), (2, ⟨82, false, [.rd β1 r.2.1.length (r.2.1.flatMap enc8), .sc (.int .i64 r.2.2.1), .sc (.bool r.2.2.2)]⟩), (3, ⟨3, false, [.sc (.int .i64 a1_b0)]⟩)] := by
  refine Spec.of (fn := Try.f64) Try.func64 Try.ntmps64 rfl rfl (le1 rfl) (fun w0 Zs Zb T0 ι0 => ?_)
  unfold m64 at h
  refine AWP.seq ?_
  refine AWP.region (.cons (.assign (lt1 rfl) (.const _ _ _)) <| ARun.nil _ _ _) ?_
  refine AWP.vc (s' := ⟨[(0, .ptr 1 0), (1, .ptr 3 0)], [(1, ⟨39, false, [.ptr 2 0]⟩), (2, ⟨82, false, [.rd β1 a0_b0_b0.length (a0_b0_b0.flatMap enc8), .sc (.int .i64 a0_b0_b1), .sc (.bool a0_b0_b2)]⟩), (3, ⟨3, false, [.sc (.int .i64 a1_b0)]⟩)]⟩) (VC.sub (.c rfl <| .c rfl <| .n _) (.c rfl <| .c rfl <| .c rfl <| .n _)) ?_
  refine AWP.seq ?_
  obtain ⟨y_1, hy_1, h⟩ := bindS h
  refine AWP.region (.cons (.loadP (lt1 rfl) (.tmp rfl) one39 rfl rfl rfl) <| .cons (.loadP (lt1 rfl) (.tmp rfl) one3 rfl rfl rfl) <| .cons (.call (σ := fun _ => 2) (bw := false) (lt1 rfl) (c25 (β1 := β1) n a0_b0_b0 a0_b0_b1 a0_b0_b2 (0 : Int) a1_b0 hy_1) (.cons (.tmp rfl) (.ren rfl) (.cons (.const _ _ _) (.ren rfl) (.cons (.tmp rfl) (.ren rfl) (.nil)))) (CallOk.mk' (.c rfl (.n)) rfl)) <| .cons (.assign (lt1 rfl) (.tmp rfl)) <| ARun.nil _ _ _) ?_
  refine AWP.vc (s' := ⟨[(0, .ptr 1 0), (3, .sc (.int .i64 y_1.1))], [(2, ⟨82, false, [.rd β1 y_1.2.1.length (y_1.2.1.flatMap enc8), .sc (.int .i64 y_1.2.2.1), .sc (.bool y_1.2.2.2)]⟩), (1, ⟨39, false, [.ptr 2 0]⟩), (3, ⟨3, false, [.sc (.int .i64 a1_b0)]⟩)]⟩) (VC.sub (.c rfl <| .c rfl <| .n _) (.c rfl <| .c rfl <| .c rfl <| .n _)) ?_
  refine AWP.seq ?_
  refine AWP.seq ?_
  refine AWP.draw (s' := ⟨[(0, .ptr 1 0), (3, .sc (.int .i64 y_1.1)), (24, .sc (.bool (y_1.2.2.2 || (decide ((IntKind.wrap .i64 ((y_1.2.1.length : Int) - y_1.2.2.1)) < y_1.1)))))], [(2, ⟨82, false, [.rd β1 y_1.2.1.length (y_1.2.1.flatMap enc8), .sc (.int .i64 y_1.2.2.1), .sc (.bool y_1.2.2.2)]⟩), (1, ⟨39, false, [.ptr 2 0]⟩), (3, ⟨3, false, [.sc (.int .i64 a1_b0)]⟩)]⟩) mixed [⟨0, .ptr 1 0, none, []⟩, ⟨3, .sc (.int .i64 y_1.1), none, []⟩, ⟨7, .ptr 2 0, some 0, []⟩, ⟨8, .ptr 2 0, some 1, []⟩, ⟨9, .ptr 2 (0 + 2), some 2, []⟩, ⟨10, .sc (.bool y_1.2.2.2), some 3, []⟩, ⟨11, .sc (.bool y_1.2.2.2), some 4, []⟩, ⟨12, .gd (!y_1.2.2.2) (.sc (.int .i64 y_1.1)), some 5, []⟩, ⟨13, .gd (!y_1.2.2.2) (.ptr 2 0), some 6, []⟩, ⟨14, .gd (!y_1.2.2.2) (.ptr 2 0), some 7, []⟩, ⟨15, .gd (!y_1.2.2.2) (.ptr 2 (0 + 0)), some 8, []⟩, ⟨16, .gd (!y_1.2.2.2) (.rd β1 y_1.2.1.length (y_1.2.1.flatMap enc8)), some 9, []⟩, ⟨17, .gd (!y_1.2.2.2) (.sc (.int .i64 (y_1.2.1.length : Int))), some 10, []⟩, ⟨18, .gd (!y_1.2.2.2) (.ptr 2 0), some 11, []⟩, ⟨19, .gd (!y_1.2.2.2) (.ptr 2 0), some 12, []⟩, ⟨20, .gd (!y_1.2.2.2) (.ptr 2 (0 + 1)), some 13, []⟩, ⟨21, .gd (!y_1.2.2.2) (.sc (.int .i64 y_1.2.2.1)), some 14, []⟩, ⟨22, .gd (!y_1.2.2.2) (.sc (.int .i64 (IntKind.wrap .i64 ((y_1.2.1.length : Int) - y_1.2.2.1)))), some 15, []⟩, ⟨23, .gd (!y_1.2.2.2) (.sc (.bool (decide ((IntKind.wrap .i64 ((y_1.2.1.length : Int) - y_1.2.2.1)) < y_1.1)))), some 16, []⟩, ⟨24, .sc (.bool (y_1.2.2.2 || (decide ((IntKind.wrap .i64 ((y_1.2.1.length : Int) - y_1.2.2.1)) < y_1.1)))), some 17, []⟩] [⟨[0], 0, 0, some (7, .ptr 2 0), []⟩, ⟨[2], 0, 0, some (8, .ptr 2 0), []⟩, ⟨[3], 0, 0, some (9, .ptr 2 (0 + 2)), []⟩, ⟨[4], 0, 0, some (10, .sc (.bool y_1.2.2.2)), []⟩, ⟨[5], 0, 0, some (11, .sc (.bool y_1.2.2.2)), []⟩, ⟨[6, 1], 0, 0, some (12, .gd (!y_1.2.2.2) (.sc (.int .i64 y_1.1))), []⟩, ⟨[6, 0], 0, 0, some (13, .gd (!y_1.2.2.2) (.ptr 2 0)), []⟩, ⟨[6, 8], 0, 0, some (14, .gd (!y_1.2.2.2) (.ptr 2 0)), []⟩, ⟨[6, 9], 0, 0, some (15, .gd (!y_1.2.2.2) (.ptr 2 (0 + 0))), []⟩, ⟨[6, 10], 0, 0, some (16, .gd (!y_1.2.2.2) (.rd β1 y_1.2.1.length (y_1.2.1.flatMap enc8))), []⟩, ⟨[6, 11], 0, 0, some (17, .gd (!y_1.2.2.2) (.sc (.int .i64 (y_1.2.1.length : Int)))), []⟩, ⟨[6, 0], 0, 0, some (18, .gd (!y_1.2.2.2) (.ptr 2 0)), []⟩, ⟨[6, 13], 0, 0, some (19, .gd (!y_1.2.2.2) (.ptr 2 0)), []⟩, ⟨[6, 14], 0, 0, some (20, .gd (!y_1.2.2.2) (.ptr 2 (0 + 1))), []⟩, ⟨[6, 15], 0, 0, some (21, .gd (!y_1.2.2.2) (.sc (.int .i64 y_1.2.2.1))), []⟩, ⟨[6, 12, 16], 0, 0, some (22, .gd (!y_1.2.2.2) (.sc (.int .i64 (IntKind.wrap .i64 ((y_1.2.1.length : Int) - y_1.2.2.1))))), []⟩, ⟨[6, 7, 17], 0, 0, some (23, .gd (!y_1.2.2.2) (.sc (.bool (decide ((IntKind.wrap .i64 ((y_1.2.1.length : Int) - y_1.2.2.1)) < y_1.1))))), []⟩, ⟨[6, 18], 0, 0, some (24, .sc (.bool (y_1.2.2.2 || (decide ((IntKind.wrap .i64 ((y_1.2.1.length : Int) - y_1.2.2.1)) < y_1.1))))), []⟩] [] [[(2, ⟨82, false, [.rd β1 y_1.2.1.length (y_1.2.1.flatMap enc8), .sc (.int .i64 y_1.2.2.1), .sc (.bool y_1.2.2.2)]⟩), (1, ⟨39, false, [.ptr 2 0]⟩), (3, ⟨3, false, [.sc (.int .i64 a1_b0)]⟩)]] [[], [0], [0, 1], [0, 1, 2], [0, 1, 2, 3], [0, 1, 2, 3, 4], [0, 1, 2, 3, 4], [0, 1, 2, 3, 4, 6], [0, 1, 2, 3, 4, 6, 7], [0, 1, 2, 3, 4, 6, 7, 8], [0, 1, 2, 3, 4, 6, 7, 8, 9], [0, 1, 2, 3, 4], [0, 1, 2, 3, 4, 11], [0, 1, 2, 3, 4, 11, 12], [0, 1, 2, 3, 4, 11, 12, 13], [0, 1, 2, 3, 4, 6, 7, 8, 9, 10, 11, 12, 13, 14], [0, 1, 2, 3, 4, 5, 6, 7, 8, 9, 10, 11, 12, 13, 14, 15], [0, 1, 2, 3, 4, 5, 6, 7, 8, 9, 10, 11, 12, 13, 14, 15, 16]] (by kernel_rfl) (by kernel_rfl) (BornL.ok (.o <| .o <| .b rfl rfl <| .b rfl rfl <| .b rfl rfl <| .b rfl rfl <| .b rfl rfl <| .b rfl rfl <| .b rfl rfl <| .b rfl rfl <| .b rfl rfl <| .b rfl rfl <| .b rfl rfl <| .b rfl rfl <| .b rfl rfl <| .b rfl rfl <| .b rfl rfl <| .b rfl rfl <| .b rfl rfl <| .b rfl rfl <| .n)) (BaseL.ok (.o rfl <| .o rfl <| .b <| .b <| .b <| .b <| .b <| .b <| .b <| .b <| .b <| .b <| .b <| .b <| .b <| .b <| .b <| .b <| .b <| .b <| .n)) rfl (by decide) (allLt rfl) (.read rfl (.c (.put (fun E hE => .loadP (lt1 rfl) (.tmp (hE.at (k := 0) rfl)) one39 rfl rfl rfl)) .n) <| .read rfl (.c (.put (fun E hE => .nilCheck (lt1 rfl) (.tmp (hE.at (k := 0) rfl)) trivial)) .n) <| .read rfl (.c (.put (fun E hE => .fieldP (lt1 rfl) (.tmp (hE.at (k := 0) rfl)) fld82_2)) .n) <| .read rfl (.c (.put (fun E hE => .loadP (lt1 rfl) (.tmp (hE.at (k := 0) rfl)) one4 rfl rfl rfl)) .n) <| .pure rfl (fun H => .put (fun E hE => .move (lt1 rfl) (.tmp (hE.at (k := 0) rfl)))) <| .pure rfl (fun H => .gput (b := y_1.2.2.2) (want := false) (j := 4) (dj := 11) rfl (lt1 rfl) (lt1 rfl) (fun E hE => hE.at (k := 0) rfl) (fun hg E hE => .move (lt1 rfl) (.tmp (hE.at (k := 1) rfl)))) <| .read rfl (.c (.gput (b := y_1.2.2.2) (want := false) (j := 4) (dj := 11) rfl (lt1 rfl) (lt1 rfl) (fun E hE => hE.at (k := 0) rfl) (fun hg E hE => .loadP (lt1 rfl) (.tmp (hE.at (k := 1) rfl)) one39 rfl rfl rfl)) .n) <| .read rfl (.c (.gput (b := y_1.2.2.2) (want := false) (j := 4) (dj := 11) rfl (lt1 rfl) (lt1 rfl) (fun E hE => hE.at (k := 0) rfl) (fun hg E hE => .nilCheck (lt1 rfl) (.gd hg (.tmp (hE.at (k := 1) rfl))) trivial)) .n) <| .read rfl (.c (.gput (b := y_1.2.2.2) (want := false) (j := 4) (dj := 11) rfl (lt1 rfl) (lt1 rfl) (fun E hE => hE.at (k := 0) rfl) (fun hg E hE => .fieldP (lt1 rfl) (.gd hg (.tmp (hE.at (k := 1) rfl))) fld82_0)) .n) <| .read rfl (.c (.gput (b := y_1.2.2.2) (want := false) (j := 4) (dj := 11) rfl (lt1 rfl) (lt1 rfl) (fun E hE => hE.at (k := 0) rfl) (fun hg E hE => .loadP (lt1 rfl) (.gd hg (.tmp (hE.at (k := 1) rfl))) one33 rfl rfl rfl)) .n) <| .pure rfl (fun H => .gput (b := y_1.2.2.2) (want := false) (j := 4) (dj := 11) rfl (lt1 rfl) (lt1 rfl) (fun E hE => hE.at (k := 0) rfl) (fun hg E hE => .lenRd (lt1 rfl) (.gd hg (.tmp (hE.at (k := 1) rfl))) Try.underlying33)) <| .read rfl (.c (.gput (b := y_1.2.2.2) (want := false) (j := 4) (dj := 11) rfl (lt1 rfl) (lt1 rfl) (fun E hE => hE.at (k := 0) rfl) (fun hg E hE => .loadP (lt1 rfl) (.tmp (hE.at (k := 1) rfl)) one39 rfl rfl rfl)) .n) <| .read rfl (.c (.gput (b := y_1.2.2.2) (want := false) (j := 4) (dj := 11) rfl (lt1 rfl) (lt1 rfl) (fun E hE => hE.at (k := 0) rfl) (fun hg E hE => .nilCheck (lt1 rfl) (.gd hg (.tmp (hE.at (k := 1) rfl))) trivial)) .n) <| .read rfl (.c (.gput (b := y_1.2.2.2) (want := false) (j := 4) (dj := 11) rfl (lt1 rfl) (lt1 rfl) (fun E hE => hE.at (k := 0) rfl) (fun hg E hE => .fieldP (lt1 rfl) (.gd hg (.tmp (hE.at (k := 1) rfl))) fld82_1)) .n) <| .read rfl (.c (.gput (b := y_1.2.2.2) (want := false) (j := 4) (dj := 11) rfl (lt1 rfl) (lt1 rfl) (fun E hE => hE.at (k := 0) rfl) (fun hg E hE => .loadP (lt1 rfl) (.gd hg (.tmp (hE.at (k := 1) rfl))) one3 rfl rfl rfl)) .n) <| .pure rfl (fun H => .gput (b := y_1.2.2.2) (want := false) (j := 4) (dj := 11) rfl (lt1 rfl) (lt1 rfl) (fun E hE => hE.at (k := 0) rfl) (fun hg E hE => .sub (lt1 rfl) (.gd hg (.tmp (hE.at (k := 1) rfl))) (.gd hg (.tmp (hE.at (k := 2) rfl))))) <| .pure rfl (fun H => .gput (b := y_1.2.2.2) (want := false) (j := 4) (dj := 11) rfl (lt1 rfl) (lt1 rfl) (fun E hE => hE.at (k := 0) rfl) (fun hg E hE => .gtr (lt1 rfl) (.gd hg (.tmp (hE.at (k := 1) rfl))) (.gd hg (.tmp (hE.at (k := 2) rfl))))) <| .pure rfl (fun H => .put (fun E hE => .pickOr (lt1 rfl) (.tmp (hE.at (k := 0) rfl)) (.const _ _ _) (.tmp (hE.at (k := 1) rfl)))) <| .nil _) (fun E hE => .c (DInv.at hE (k := 0) rfl rfl rfl) <| .c (DInv.at hE (k := 1) rfl rfl rfl) <| .c (DInv.at hE (k := 19) rfl rfl rfl) <| .n _) rfl ?_
  refine AWP.vc (s' := ⟨[(0, .ptr 1 0), (3, .sc (.int .i64 y_1.1)), (24, .sc (.bool (y_1.2.2.2 || (decide ((IntKind.wrap .i64 ((y_1.2.1.length : Int) - y_1.2.2.1)) < y_1.1)))))], [(2, ⟨82, false, [.rd β1 y_1.2.1.length (y_1.2.1.flatMap enc8), .sc (.int .i64 y_1.2.2.1), .sc (.bool y_1.2.2.2)]⟩), (1, ⟨39, false, [.ptr 2 0]⟩), (3, ⟨3, false, [.sc (.int .i64 a1_b0)]⟩)]⟩) (VC.sub (.c rfl <| .c rfl <| .c rfl <| .n _) (.c rfl <| .c rfl <| .c rfl <| .n _)) ?_
  refine AWP.cond (.tmp rfl) (fun hc => ?_) (fun hc => ?_)
  · have h := iteT hc h
    refine AWP.seq ?_
    refine AWP.region (.cons (.loadP (lt1 rfl) (.tmp rfl) one39 rfl rfl rfl) <| .cons (.nilCheck (lt1 rfl) (.tmp rfl) trivial) <| .cons (.fieldP (lt1 rfl) (.tmp rfl) fld82_2) <| .cons (.storeP (.tmp rfl) (.const _ _ _) sz4 rfl (lt1 rfl) rfl (by intro h; cases h) rfl) <| ARun.nil _ _ _) ?_
    refine AWP.vc (s' := ⟨[], [(2, ⟨82, false, [.rd β1 y_1.2.1.length (y_1.2.1.flatMap enc8), .sc (.int .i64 y_1.2.2.1), .sc (.bool true)]⟩), (1, ⟨39, false, [.ptr 2 0]⟩), (3, ⟨3, false, [.sc (.int .i64 a1_b0)]⟩)]⟩) (VC.sub (.n _) (.c rfl <| .c rfl <| .c rfl <| .n _)) ?_
    refine AWP.seq ?_
    refine AWP.region (.cons (.assign (lt1 rfl) (.const _ _ _)) <| ARun.nil _ _ _) ?_
    refine AWP.ret ?_
    obtain rfl := Option.some.inj h
    refine retJ (Res.vc (s' := ⟨[(2, .rd false ([] : List UInt8).length (([] : List UInt8).flatMap enc8))], [(1, ⟨39, false, [.ptr 2 0]⟩), (2, ⟨82, false, [.rd β1 y_1.2.1.length (y_1.2.1.flatMap enc8), .sc (.int .i64 y_1.2.2.1), .sc (.bool true)]⟩), (3, ⟨3, false, [.sc (.int .i64 a1_b0)]⟩)]⟩) (VC.trans (VC.nilRd (d := 2) false rfl) (VC.sub (.c rfl <| .n _) (.c rfl <| .c rfl <| .c rfl <| .n _))) ?_)
    refine Res.sub (H := [(1, ⟨39, false, [.ptr 2 0]⟩), (2, ⟨82, false, [.rd β1 y_1.2.1.length (y_1.2.1.flatMap enc8), .sc (.int .i64 y_1.2.2.1), .sc (.bool true)]⟩), (3, ⟨3, false, [.sc (.int .i64 a1_b0)]⟩)]) (.c rfl <| .c rfl <| .c rfl <| .n _) ?_
    exact Res.of rfl (.cons (.tmp rfl) (.nil)) rfl rfl
  · have h := iteF hc h
    refine AWP.skip ?_
    refine AWP.seq ?_
    obtain ⟨c_2, hc_2, h⟩ := letS h
    refine AWP.region (.cons (.loadP (lt1 rfl) (.tmp rfl) one39 rfl rfl rfl) <| .cons (.nilCheck (lt1 rfl) (.tmp rfl) trivial) <| .cons (.fieldP (lt1 rfl) (.tmp rfl) fld82_1) <| .cons (.loadP (lt1 rfl) (.tmp rfl) one3 rfl rfl rfl) <| .cons (.move (lt1 rfl) (.tmp rfl)) <| .cons (.add (lt1 rfl) (.tmp rfl) (.tmp rfl)) <| .cons (.nilCheck (lt1 rfl) (.tmp rfl) trivial) <| .cons (.fieldP (lt1 rfl) (.tmp rfl) fld82_1) <| .cons (.storeP (.tmp rfl) (.tmp rfl) sz3 rfl (lt1 rfl) rfl (by intro h; cases h) rfl) <| ARun.nil _ _ _) ?_
    refine AWP.vc (s' := ⟨[(0, .ptr 1 0), (3, .sc (.int .i64 y_1.1))], [(2, ⟨82, false, [.rd β1 y_1.2.1.length (y_1.2.1.flatMap enc8), .sc (.int .i64 c_2), .sc (.bool y_1.2.2.2)]⟩), (1, ⟨39, false, [.ptr 2 0]⟩), (3, ⟨3, false, [.sc (.int .i64 a1_b0)]⟩)]⟩) (by subst hc_2; exact VC.sub (.c rfl <| .c rfl <| .n _) (.c rfl <| .c rfl <| .c rfl <| .n _)) ?_
    refine AWP.seq ?_
    obtain ⟨s_3, hs_3, h⟩ := bindS h
    obtain ⟨y_4, hy_4, h⟩ := bindS h
    refine AWP.draw (s' := ⟨[(2, .rd false y_4.length (y_4.flatMap enc8))], [(2, ⟨82, false, [.rd β1 y_1.2.1.length (y_1.2.1.flatMap enc8), .sc (.int .i64 c_2), .sc (.bool y_1.2.2.2)]⟩), (1, ⟨39, false, [.ptr 2 0]⟩), (3, ⟨3, false, [.sc (.int .i64 a1_b0)]⟩)]⟩) mixed [⟨0, .ptr 1 0, none, []⟩, ⟨3, .sc (.int .i64 y_1.1), none, []⟩, ⟨36, .ptr 2 0, some 0, []⟩, ⟨37, .ptr 2 0, some 1, []⟩, ⟨38, .ptr 2 (0 + 0), some 2, []⟩, ⟨39, .rd β1 y_1.2.1.length (y_1.2.1.flatMap enc8), some 3, []⟩, ⟨40, .ptr 2 0, some 4, []⟩, ⟨41, .ptr 2 0, some 5, []⟩, ⟨42, .ptr 2 (0 + 1), some 6, []⟩, ⟨43, .sc (.int .i64 c_2), some 7, []⟩, ⟨44, .sc (.int .i64 y_1.1), some 8, []⟩, ⟨45, .sc (.int .i64 (IntKind.wrap .i64 (c_2 - y_1.1))), some 9, []⟩, ⟨46, .ptr 2 0, some 10, []⟩, ⟨47, .ptr 2 0, some 11, []⟩, ⟨48, .ptr 2 (0 + 1), some 12, []⟩, ⟨49, .sc (.int .i64 c_2), some 13, []⟩, ⟨50, .rd β1 s_3.length (s_3.flatMap enc8), some 14, []⟩, ⟨51, .rd false y_4.length (y_4.flatMap enc8), some 15, []⟩, ⟨2, .rd false y_4.length (y_4.flatMap enc8), some 16, []⟩] [⟨[0], 0, 0, some (36, .ptr 2 0), []⟩, ⟨[2], 0, 0, some (37, .ptr 2 0), []⟩, ⟨[3], 0, 0, some (38, .ptr 2 (0 + 0)), []⟩, ⟨[4], 0, 0, some (39, .rd β1 y_1.2.1.length (y_1.2.1.flatMap enc8)), []⟩, ⟨[0], 0, 0, some (40, .ptr 2 0), []⟩, ⟨[6], 0, 0, some (41, .ptr 2 0), []⟩, ⟨[7], 0, 0, some (42, .ptr 2 (0 + 1)), []⟩, ⟨[8], 0, 0, some (43, .sc (.int .i64 c_2)), []⟩, ⟨[1], 0, 0, some (44, .sc (.int .i64 y_1.1)), []⟩, ⟨[9, 10], 0, 0, some (45, .sc (.int .i64 (IntKind.wrap .i64 (c_2 - y_1.1)))), []⟩, ⟨[0], 0, 0, some (46, .ptr 2 0), []⟩, ⟨[12], 0, 0, some (47, .ptr 2 0), []⟩, ⟨[13], 0, 0, some (48, .ptr 2 (0 + 1)), []⟩, ⟨[14], 0, 0, some (49, .sc (.int .i64 c_2)), []⟩, ⟨[5, 11, 15], 0, 0, some (50, .rd β1 s_3.length (s_3.flatMap enc8)), []⟩, ⟨[16], 0, 0, some (51, .rd false y_4.length (y_4.flatMap enc8)), []⟩, ⟨[17], 0, 0, some (2, .rd false y_4.length (y_4.flatMap enc8)), []⟩] [] [[(2, ⟨82, false, [.rd β1 y_1.2.1.length (y_1.2.1.flatMap enc8), .sc (.int .i64 c_2), .sc (.bool y_1.2.2.2)]⟩), (1, ⟨39, false, [.ptr 2 0]⟩), (3, ⟨3, false, [.sc (.int .i64 a1_b0)]⟩)]] [[], [0], [0, 1], [0, 1, 2], [], [4], [4, 5], [4, 5, 6], [], [4, 5, 6, 7, 8], [], [10], [10, 11], [10, 11, 12], [0, 1, 2, 3, 4, 5, 6, 7, 8, 9, 10, 11, 12, 13], [0, 1, 2, 3, 4, 5, 6, 7, 8, 9, 10, 11, 12, 13, 14], [0, 1, 2, 3, 4, 5, 6, 7, 8, 9, 10, 11, 12, 13, 14, 15]] (by kernel_rfl) (by kernel_rfl) (BornL.ok (.o <| .o <| .b rfl rfl <| .b rfl rfl <| .b rfl rfl <| .b rfl rfl <| .b rfl rfl <| .b rfl rfl <| .b rfl rfl <| .b rfl rfl <| .b rfl rfl <| .b rfl rfl <| .b rfl rfl <| .b rfl rfl <| .b rfl rfl <| .b rfl rfl <| .b rfl rfl <| .b rfl rfl <| .b rfl rfl <| .n)) (BaseL.ok (.o rfl <| .o rfl <| .b <| .b <| .b <| .b <| .b <| .b <| .b <| .b <| .b <| .b <| .b <| .b <| .b <| .b <| .b <| .b <| .b <| .n)) rfl (by decide) (allLt rfl) (.read rfl (.c (.put (fun E hE => .loadP (lt1 rfl) (.tmp (hE.at (k := 0) rfl)) one39 rfl rfl rfl)) .n) <| .read rfl (.c (.put (fun E hE => .nilCheck (lt1 rfl) (.tmp (hE.at (k := 0) rfl)) trivial)) .n) <| .read rfl (.c (.put (fun E hE => .fieldP (lt1 rfl) (.tmp (hE.at (k := 0) rfl)) fld82_0)) .n) <| .read rfl (.c (.put (fun E hE => .loadP (lt1 rfl) (.tmp (hE.at (k := 0) rfl)) one33 rfl rfl rfl)) .n) <| .read rfl (.c (.put (fun E hE => .loadP (lt1 rfl) (.tmp (hE.at (k := 0) rfl)) one39 rfl rfl rfl)) .n) <| .read rfl (.c (.put (fun E hE => .nilCheck (lt1 rfl) (.tmp (hE.at (k := 0) rfl)) trivial)) .n) <| .read rfl (.c (.put (fun E hE => .fieldP (lt1 rfl) (.tmp (hE.at (k := 0) rfl)) fld82_1)) .n) <| .read rfl (.c (.put (fun E hE => .loadP (lt1 rfl) (.tmp (hE.at (k := 0) rfl)) one3 rfl rfl rfl)) .n) <| .pure rfl (fun H => .put (fun E hE => .move (lt1 rfl) (.tmp (hE.at (k := 0) rfl)))) <| .pure rfl (fun H => .put (fun E hE => .sub (lt1 rfl) (.tmp (hE.at (k := 0) rfl)) (.tmp (hE.at (k := 1) rfl)))) <| .read rfl (.c (.put (fun E hE => .loadP (lt1 rfl) (.tmp (hE.at (k := 0) rfl)) one39 rfl rfl rfl)) .n) <| .read rfl (.c (.put (fun E hE => .nilCheck (lt1 rfl) (.tmp (hE.at (k := 0) rfl)) trivial)) .n) <| .read rfl (.c (.put (fun E hE => .fieldP (lt1 rfl) (.tmp (hE.at (k := 0) rfl)) fld82_1)) .n) <| .read rfl (.c (.put (fun E hE => .loadP (lt1 rfl) (.tmp (hE.at (k := 0) rfl)) one3 rfl rfl rfl)) .n) <| .pure rfl (fun H => .put (fun E hE => .slRd (enc := enc8) (lt1 rfl) (.tmp (hE.at (k := 0) rfl)) Try.underlying33 sz5 enc8_len rfl (.some (.tmp (hE.at (k := 1) rfl))) (.some (.tmp (hE.at (k := 2) rfl))) hs_3)) <| .pure rfl (fun H => .put (fun E hE => .call0 (bw := false) (lt1 rfl) (c42 (β1 := β1) n s_3 hy_4) (.cons (.tmp (hE.at (k := 0) rfl)) (.ren rfl) (.nil)) rfl)) <| .pure rfl (fun H => .put (fun E hE => .assign (lt1 rfl) (.tmp (hE.at (k := 0) rfl)))) <| .nil _) (fun E hE => .c (DInv.at hE (k := 18) rfl rfl rfl) <| .n _) rfl ?_
    refine AWP.ret ?_
    obtain rfl := Option.some.inj h
    refine retJ (Res.vc (s' := ⟨[(2, .rd false y_4.length (y_4.flatMap enc8))], [(1, ⟨39, false, [.ptr 2 0]⟩), (2, ⟨82, false, [.rd β1 y_1.2.1.length (y_1.2.1.flatMap enc8), .sc (.int .i64 c_2), .sc (.bool y_1.2.2.2)]⟩), (3, ⟨3, false, [.sc (.int .i64 a1_b0)]⟩)]⟩) (VC.sub (.c rfl <| .n _) (.c rfl <| .c rfl <| .c rfl <| .n _)) ?_)
    refine Res.sub (H := [(1, ⟨39, false, [.ptr 2 0]⟩), (2, ⟨82, false, [.rd β1 y_1.2.1.length (y_1.2.1.flatMap enc8), .sc (.int .i64 c_2), .sc (.bool y_1.2.2.2)]⟩), (3, ⟨3, false, [.sc (.int .i64 a1_b0)]⟩)]) (.c rfl <| .c rfl <| .c rfl <| .n _) ?_
    exact Res.of rfl (.cons (.tmp rfl) (.nil)) rfl rfl
theorem c63 {β1 : Bool} (n : Nat) (a0_b0 : (List UInt8)) (a0_b1 : Int) (a0_b2 : Bool) (a1_1_b0 : Int) {r : ((List UInt8) × (List UInt8) × Int × Bool)} (h : m63 n a0_b0 a0_b1 a0_b2 a1_1_b0 = some r) : Spec Try.prog 63 [1, 2, 3] [.ptr 1 0, .clo (.func 64) [] [.ptr 2 0, .ptr 3 0]] [(1, ⟨82, false, [.rd β1 a0_b0.length (a0_b0.flatMap enc8), .sc (.int .i64 a0_b1), .sc (.bool a0_b2)]⟩), (2, ⟨39, false, [.ptr 1 0]⟩), (3, ⟨3, false, [.sc (.int .i64 a1_1_b0)]⟩)] (.rd false r.1.length (r.1.flatMap enc8)) [(1, ⟨82, false, [.rd β1 r.2.1.length (r.2.1.flatMap enc8), .sc (.int .i64 r.2.2.1), .sc (.bool r.2.2.2)]⟩), (2, ⟨39, false, [.ptr 1 0]⟩), (3, ⟨3, false, [.sc (.int .i64 a1_1_b0)]⟩)] := by
  refine Spec.of (fn := Try.f63) Try.func63 Try.ntmps63 rfl rfl (le1 rfl) (fun w0 Zs Zb T0 ι0 => ?_)
  unfold m63 at h
  refine AWP.seq ?_
  refine AWP.region (.cons (.assign (lt1 rfl) (.const _ _ _)) <| ARun.nil _ _ _) ?_
  refine AWP.vc (s' := ⟨[(0, .ptr 1 0), (1, .clo (.func 64) [] [.ptr 2 0, .ptr 3 0])], [(1, ⟨82, false, [.rd β1 a0_b0.length (a0_b0.flatMap enc8), .sc (.int .i64 a0_b1), .sc (.bool a0_b2)]⟩), (2, ⟨39, false, [.ptr 1 0]⟩), (3, ⟨3, false, [.sc (.int .i64 a1_1_b0)]⟩)]⟩) (VC.sub (.c rfl <| .c rfl <| .n _) (.c rfl <| .c rfl <| .c rfl <| .n _)) ?_
  refine AWP.seq ?_
  refine AWP.region (.cons (.assign (lt1 rfl) (.const _ _ _)) <| ARun.nil _ _ _) ?_
  refine AWP.vc (s' := ⟨[(0, .ptr 1 0), (1, .clo (.func 64) [] [.ptr 2 0, .ptr 3 0]), (5, .sc (.slice none 0 0))], [(1, ⟨82, false, [.rd β1 a0_b0.length (a0_b0.flatMap enc8), .sc (.int .i64 a0_b1), .sc (.bool a0_b2)]⟩), (2, ⟨39, false, [.ptr 1 0]⟩), (3, ⟨3, false, [.sc (.int .i64 a1_1_b0)]⟩)]⟩) (VC.sub (.c rfl <| .c rfl <| .c rfl <| .n _) (.c rfl <| .c rfl <| .c rfl <| .n _)) ?_
  refine AWP.seq ?_
  refine AWP.seq ?_
  refine AWP.region (.cons (.move (lt1 rfl) (.tmp rfl)) <| .cons (.ptrNil0 (lt1 rfl) (.tmp rfl) Try.underlying39) <| .cons (.move (lt1 rfl) (.tmp rfl)) <| .guardT (j := 2) (dj := 10) rfl (lt1 rfl) rfl rfl (.move (lt1 rfl) (.tmp rfl)) <| .guardT (j := 2) (dj := 10) rfl (lt1 rfl) rfl rfl (.nilCheck (lt1 rfl) (.tmp rfl) trivial) <| .guardT (j := 2) (dj := 10) rfl (lt1 rfl) rfl rfl (.fieldP (lt1 rfl) (.tmp rfl) fld82_2) <| .guardT (j := 2) (dj := 10) rfl (lt1 rfl) rfl rfl (.loadP (lt1 rfl) (.tmp rfl) one4 rfl rfl rfl) <| .cons (.pickF (lt1 rfl) (.tmp rfl) rfl (.tmp rfl)) <| ARun.nil _ _ _) ?_
  refine AWP.vc (s' := ⟨[(0, .ptr 1 0), (1, .clo (.func 64) [] [.ptr 2 0, .ptr 3 0]), (5, .sc (.slice none 0 0)), (15, .sc (.bool a0_b2))], [(1, ⟨82, false, [.rd β1 a0_b0.length (a0_b0.flatMap enc8), .sc (.int .i64 a0_b1), .sc (.bool a0_b2)]⟩), (2, ⟨39, false, [.ptr 1 0]⟩), (3, ⟨3, false, [.sc (.int .i64 a1_1_b0)]⟩)]⟩) (VC.sub (.c rfl <| .c rfl <| .c rfl <| .c rfl <| .n _) (.c rfl <| .c rfl <| .c rfl <| .n _)) ?_
  refine AWP.cond (.tmp rfl) (fun hc => ?_) (fun hc => ?_)
  · have h := iteT hc h
    refine AWP.seq ?_
    refine AWP.region (.cons (.move (lt1 rfl) (.tmp rfl)) <| .cons (.assign (lt1 rfl) (.tmp rfl)) <| ARun.nil _ _ _) ?_
    refine AWP.ret ?_
    obtain rfl := Option.some.inj h
    refine retJ (Res.vc (s' := ⟨[(4, .rd false ([] : List UInt8).length (([] : List UInt8).flatMap enc8))], [(1, ⟨82, false, [.rd β1 a0_b0.length (a0_b0.flatMap enc8), .sc (.int .i64 a0_b1), .sc (.bool a0_b2)]⟩), (2, ⟨39, false, [.ptr 1 0]⟩), (3, ⟨3, false, [.sc (.int .i64 a1_1_b0)]⟩)]⟩) (VC.trans (VC.nilRd (d := 4) false rfl) (VC.sub (.c rfl <| .n _) (.c rfl <| .c rfl <| .c rfl <| .n _))) ?_)
    refine Res.sub (H := [(1, ⟨82, false, [.rd β1 a0_b0.length (a0_b0.flatMap enc8), .sc (.int .i64 a0_b1), .sc (.bool a0_b2)]⟩), (2, ⟨39, false, [.ptr 1 0]⟩), (3, ⟨3, false, [.sc (.int .i64 a1_1_b0)]⟩)]) (.c rfl <| .c rfl <| .c rfl <| .n _) ?_
    exact Res.of rfl (.cons (.tmp rfl) (.nil)) rfl rfl
  · have h := iteF hc h
    refine AWP.skip ?_
    refine AWP.seq ?_
    refine AWP.region (.cons (.move (lt1 rfl) (.tmp rfl)) <| .cons (.nilCheck (lt1 rfl) (.tmp rfl) trivial) <| .cons (.fieldP (lt1 rfl) (.tmp rfl) fld82_1) <| .cons (.loadP (lt1 rfl) (.tmp rfl) one3 rfl rfl rfl) <| .cons (.assign (lt1 rfl) (.tmp rfl)) <| ARun.nil _ _ _) ?_
    refine AWP.vc (s' := ⟨[(0, .ptr 1 0), (1, .clo (.func 64) [] [.ptr 2 0, .ptr 3 0]), (5, .sc (.slice none 0 0)), (6, .sc (.int .i64 a0_b1))], [(1, ⟨82, false, [.rd β1 a0_b0.length (a0_b0.flatMap enc8), .sc (.int .i64 a0_b1), .sc (.bool a0_b2)]⟩), (2, ⟨39, false, [.ptr 1 0]⟩), (3, ⟨3, false, [.sc (.int .i64 a1_1_b0)]⟩)]⟩) (VC.sub (.c rfl <| .c rfl <| .c rfl <| .c rfl <| .n _) (.c rfl <| .c rfl <| .c rfl <| .n _)) ?_
    refine AWP.seq ?_
    obtain ⟨y_1, hy_1, h⟩ := bindS h
    refine AWP.region (.cons (.move (lt1 rfl) (.tmp rfl)) <| .cons (.callV (us' := []) (avs := []) (cs' := [.ptr 1 0, .ptr 3 0]) (σ := sgT [(1, 2), (2, 1), (3, 3)]) (bw := false) (lt1 rfl) (.tmp rfl) (c64 (β1 := β1) n a0_b0 a0_b1 a0_b2 a1_1_b0 hy_1) (.nil) (.nil) (.cons (.ren rfl) (.cons (.ren rfl) (.nil))) (CallOk.mk' (.c rfl (.c rfl (.c rfl (.n)))) rfl) (fun _ h => by cases h)) <| .cons (.assign (lt1 rfl) (.tmp rfl)) <| ARun.nil _ _ _) ?_
    refine AWP.vc (s' := ⟨[(0, .ptr 1 0), (5, .sc (.slice none 0 0)), (6, .sc (.int .i64 a0_b1)), (7, .rd false y_1.1.length (y_1.1.flatMap enc8))], [(2, ⟨39, false, [.ptr 1 0]⟩), (1, ⟨82, false, [.rd β1 y_1.2.1.length (y_1.2.1.flatMap enc8), .sc (.int .i64 y_1.2.2.1), .sc (.bool y_1.2.2.2)]⟩), (3, ⟨3, false, [.sc (.int .i64 a1_1_b0)]⟩)]⟩) (VC.sub (.c rfl <| .c rfl <| .c rfl <| .c rfl <| .n _) (.c rfl <| .c rfl <| .c rfl <| .n _)) ?_
    refine AWP.seq ?_
    refine AWP.seq ?_
    refine AWP.region (.cons (.move (lt1 rfl) (.tmp rfl)) <| .cons (.nilCheck (lt1 rfl) (.tmp rfl) trivial) <| .cons (.fieldP (lt1 rfl) (.tmp rfl) fld82_2) <| .cons (.loadP (lt1 rfl) (.tmp rfl) one4 rfl rfl rfl) <| ARun.nil _ _ _) ?_
    refine AWP.vc (s' := ⟨[(0, .ptr 1 0), (5, .sc (.slice none 0 0)), (6, .sc (.int .i64 a0_b1)), (7, .rd false y_1.1.length (y_1.1.flatMap enc8)), (26, .sc (.bool y_1.2.2.2))], [(2, ⟨39, false, [.ptr 1 0]⟩), (1, ⟨82, false, [.rd β1 y_1.2.1.length (y_1.2.1.flatMap enc8), .sc (.int .i64 y_1.2.2.1), .sc (.bool y_1.2.2.2)]⟩), (3, ⟨3, false, [.sc (.int .i64 a1_1_b0)]⟩)]⟩) (VC.sub (.c rfl <| .c rfl <| .c rfl <| .c rfl <| .c rfl <| .n _) (.c rfl <| .c rfl <| .c rfl <| .n _)) ?_
    refine AWP.cond (.tmp rfl) (fun hc => ?_) (fun hc => ?_)
    · have h := iteT hc h
      refine AWP.seq ?_
      refine AWP.region (.cons (.move (lt1 rfl) (.tmp rfl)) <| .cons (.move (lt1 rfl) (.tmp rfl)) <| .cons (.nilCheck (lt1 rfl) (.tmp rfl) trivial) <| .cons (.fieldP (lt1 rfl) (.tmp rfl) fld82_1) <| .cons (.storeP (.tmp rfl) (.tmp rfl) sz3 rfl (lt1 rfl) rfl (by intro h; cases h) rfl) <| ARun.nil _ _ _) ?_
      refine AWP.vc (s' := ⟨[(5, .sc (.slice none 0 0))], [(2, ⟨39, false, [.ptr 1 0]⟩), (1, ⟨82, false, [.rd β1 y_1.2.1.length (y_1.2.1.flatMap enc8), .sc (.int .i64 a0_b1), .sc (.bool y_1.2.2.2)]⟩), (3, ⟨3, false, [.sc (.int .i64 a1_1_b0)]⟩)]⟩) (VC.sub (.c rfl <| .n _) (.c rfl <| .c rfl <| .c rfl <| .n _)) ?_
      refine AWP.seq ?_
      refine AWP.region (.cons (.move (lt1 rfl) (.tmp rfl)) <| .cons (.assign (lt1 rfl) (.tmp rfl)) <| ARun.nil _ _ _) ?_
      refine AWP.ret ?_
      obtain rfl := Option.some.inj h
      refine retJ (Res.vc (s' := ⟨[(4, .rd false ([] : List UInt8).length (([] : List UInt8).flatMap enc8))], [(1, ⟨82, false, [.rd β1 y_1.2.1.length (y_1.2.1.flatMap enc8), .sc (.int .i64 a0_b1), .sc (.bool y_1.2.2.2)]⟩), (2, ⟨39, false, [.ptr 1 0]⟩), (3, ⟨3, false, [.sc (.int .i64 a1_1_b0)]⟩)]⟩) (VC.trans (VC.nilRd (d := 4) false rfl) (VC.sub (.c rfl <| .n _) (.c rfl <| .c rfl <| .c rfl <| .n _))) ?_)
      refine Res.sub (H := [(1, ⟨82, false, [.rd β1 y_1.2.1.length (y_1.2.1.flatMap enc8), .sc (.int .i64 a0_b1), .sc (.bool y_1.2.2.2)]⟩), (2, ⟨39, false, [.ptr 1 0]⟩), (3, ⟨3, false, [.sc (.int .i64 a1_1_b0)]⟩)]) (.c rfl <| .c rfl <| .c rfl <| .n _) ?_
      exact Res.of rfl (.cons (.tmp rfl) (.nil)) rfl rfl
    · have h := iteF hc h
      refine AWP.skip ?_
      refine AWP.seq ?_
      refine AWP.region (.cons (.move (lt1 rfl) (.tmp rfl)) <| .cons (.assign (lt1 rfl) (.tmp rfl)) <| ARun.nil _ _ _) ?_
      refine AWP.ret ?_
      obtain rfl := Option.some.inj h
      refine retJ (Res.vc (s' := ⟨[(4, .rd false y_1.1.length (y_1.1.flatMap enc8))], [(1, ⟨82, false, [.rd β1 y_1.2.1.length (y_1.2.1.flatMap enc8), .sc (.int .i64 y_1.2.2.1), .sc (.bool y_1.2.2.2)]⟩), (2, ⟨39, false, [.ptr 1 0]⟩), (3, ⟨3, false, [.sc (.int .i64 a1_1_b0)]⟩)]⟩) (VC.sub (.c rfl <| .n _) (.c rfl <| .c rfl <| .c rfl <| .n _)) ?_)
      refine Res.sub (H := [(1, ⟨82, false, [.rd β1 y_1.2.1.length (y_1.2.1.flatMap enc8), .sc (.int .i64 y_1.2.2.1), .sc (.bool y_1.2.2.2)]⟩), (2, ⟨39, false, [.ptr 1 0]⟩), (3, ⟨3, false, [.sc (.int .i64 a1_1_b0)]⟩)]) (.c rfl <| .c rfl <| .c rfl <| .n _) ?_
      exact Res.of rfl (.cons (.tmp rfl) (.nil)) rfl rfl
theorem c27 {β1 : Bool} (n : Nat) (a0_b0 : (List UInt8)) (a0_b1 : Int) (a0_b2 : Bool) (a1 : Int) {r : ((List UInt8) × (List UInt8) × Int × Bool)} (h : m27 n a0_b0 a0_b1 a0_b2 a1 = some r) : Spec Try.prog 27 [1] [.ptr 1 0, .sc (.int .i64 a1)] [(1, ⟨82, false, [.rd β1 a0_b0.length (a0_b0.flatMap enc8), .sc (.int .i64 a0_b1), .sc (.bool a0_b2)]⟩)] (.rd false r.1.length (r.1.flatMap enc8)) [(1, ⟨82, false, [.rd β1 r.2.1.length (r.2.1.flatMap enc8), .sc (.int .i64 r.2.2.1), .sc (.bool r.2.2.2)]⟩)] := by
  refine Spec.of (fn := Try.f27) Try.func27 Try.ntmps27 rfl rfl (le1 rfl) (fun w0 Zs Zb T0 ι0 => ?_)
  unfold m27 at h
  refine AWP.seq ?_
  refine AWP.region (.cons (.box (t := 2) (n := 1) (lt1 rfl) (nm rfl) (.tmp rfl) (by first | exact ⟨rfl, rfl⟩ | rfl) rfl) <| .cons (.box (t := 3) (n := 1) (lt1 rfl) (nm rfl) (.tmp rfl) (by first | exact ⟨rfl, rfl⟩ | rfl) rfl) <| .cons (.assign (lt1 rfl) (.const _ _ _)) <| ARun.nil _ _ _) ?_
  refine AWP.vc (s' := ⟨[(2, .ptr 2 0), (3, .ptr 3 0)], [(3, ⟨3, false, [.sc (.int .i64 a1)]⟩), (2, ⟨39, false, [.ptr 1 0]⟩), (1, ⟨82, false, [.rd β1 a0_b0.length (a0_b0.flatMap enc8), .sc (.int .i64 a0_b1), .sc (.bool a0_b2)]⟩)]⟩) (VC.sub (.c rfl <| .c rfl <| .n _) (.c rfl <| .c rfl <| .c rfl <| .n _)) ?_
  refine AWP.seq ?_
  obtain ⟨y_1, hy_1, h⟩ := bindS h
  refine AWP.region (.cons (.loadP (lt1 rfl) (.tmp rfl) one39 rfl rfl rfl) <| .cons (.makeFunc (lt1 rfl) (.nil) (.cons (.tmp rfl) (.cons (.tmp rfl) (.nil)))) <| .cons (.call (σ := sgT [(1, 1), (2, 2), (3, 3)]) (bw := false) (lt1 rfl) (c63 (β1 := β1) n a0_b0 a0_b1 a0_b2 a1 hy_1) (.cons (.tmp rfl) (.ren rfl) (.cons (.tmp rfl) (.ren rfl) (.nil))) (CallOk.mk' (.c rfl (.c rfl (.c rfl (.n)))) rfl)) <| .cons (.assign (lt1 rfl) (.tmp rfl)) <| ARun.nil _ _ _) ?_
  refine AWP.ret ?_
  obtain rfl := Option.some.inj h
  refine retJ (Res.vc (s' := ⟨[(4, .rd false y_1.1.length (y_1.1.flatMap enc8))], [(1, ⟨82, false, [.rd β1 y_1.2.1.length (y_1.2.1.flatMap enc8), .sc (.int .i64 y_1.2.2.1), .sc (.bool y_1.2.2.2)]⟩)]⟩) (VC.sub (.c rfl <| .n _) (.c rfl <| .n _)) ?_)
  refine Res.sub (H := [(1, ⟨82, false, [.rd β1 y_1.2.1.length (y_1.2.1.flatMap enc8), .sc (.int .i64 y_1.2.2.1), .sc (.bool y_1.2.2.2)]⟩)]) (.c rfl <| .n _) ?_
  exact Res.of rfl (.cons (.tmp rfl) (.nil)) rfl rfl
theorem c19 {β1 : Bool} (n : Nat) (a0_b0 : (List UInt8)) (a0_b1 : Int) (a0_b2 : Bool) (a1 : Int) {r : ((List UInt8) × (List UInt8) × Int × Bool)} (h : m19 n a0_b0 a0_b1 a0_b2 a1 = some r) : Spec Try.prog 19 [1] [.ptr 1 0, .sc (.int .i64 a1)] [(1, ⟨82, false, [.rd β1 a0_b0.length (a0_b0.flatMap enc8), .sc (.int .i64 a0_b1), .sc (.bool a0_b2)]⟩)] (.sc (.string (mkS r.1))) [(1, ⟨82, false, [.rd β1 r.2.1.length (r.2.1.flatMap enc8), .sc (.int .i64 r.2.2.1), .sc (.bool r.2.2.2)]⟩)] := by
  refine Spec.of (fn := Try.f19) Try.func19 Try.ntmps19 rfl rfl (le1 rfl) (fun w0 Zs Zb T0 ι0 => ?_)
  unfold m19 at h
  refine AWP.seq ?_
  refine AWP.region (.cons (.assign (lt1 rfl) (.const _ _ _)) <| ARun.nil _ _ _) ?_
  refine AWP.vc (s' := ⟨[(0, .ptr 1 0), (1, .sc (.int .i64 a1))], [(1, ⟨82, false, [.rd β1 a0_b0.length (a0_b0.flatMap enc8), .sc (.int .i64 a0_b1), .sc (.bool a0_b2)]⟩)]⟩) (VC.sub (.c rfl <| .c rfl <| .n _) (.c rfl <| .n _)) ?_
  refine AWP.seq ?_
  obtain ⟨y_1, hy_1, h⟩ := bindS h
  refine AWP.region (.cons (.move (lt1 rfl) (.tmp rfl)) <| .cons (.move (lt1 rfl) (.tmp rfl)) <| .cons (.call (σ := fun _ => 1) (bw := false) (lt1 rfl) (c27 (β1 := β1) n a0_b0 a0_b1 a0_b2 a1 hy_1) (.cons (.tmp rfl) (.ren rfl) (.cons (.tmp rfl) (.ren rfl) (.nil))) (CallOk.mk' (.c rfl (.n)) rfl)) <| .cons (.bytesStr (lt1 rfl) (.tmp rfl) Try.underlying33 Try.underlying5 Try.underlying9 rfl) <| .cons (.assign (lt1 rfl) (.tmp rfl)) <| ARun.nil _ _ _) ?_
  refine AWP.ret ?_
  obtain rfl := Option.some.inj h
  refine retJ (Res.vc (s' := ⟨[(4, .sc (.string (mkS y_1.1)))], [(1, ⟨82, false, [.rd β1 y_1.2.1.length (y_1.2.1.flatMap enc8), .sc (.int .i64 y_1.2.2.1), .sc (.bool y_1.2.2.2)]⟩)]⟩) (VC.sub (.c rfl <| .n _) (.c rfl <| .n _)) ?_)
  refine Res.sub (H := [(1, ⟨82, false, [.rd β1 y_1.2.1.length (y_1.2.1.flatMap enc8), .sc (.int .i64 y_1.2.2.1), .sc (.bool y_1.2.2.2)]⟩)]) (.c rfl <| .n _) ?_
  exact Res.of rfl (.cons (.tmp rfl) (.nil)) rfl rfl
theorem c67 {β1 : Bool} (n : Nat) (a0_b0_b0 : (List UInt8)) (a0_b0_b1 : Int) (a0_b0_b2 : Bool) {r : (R59 × (List UInt8) × Int × Bool)} (h : m67 n a0_b0_b0 a0_b0_b1 a0_b0_b2 = some r) : Spec Try.prog 67 [1, 2] [.ptr 1 0] [(1, ⟨39, false, [.ptr 2 0]⟩), (2, ⟨82, false, [.rd β1 a0_b0_b0.length (a0_b0_b0.flatMap enc8), .sc (.int .i64 a0_b0_b1), .sc (.bool a0_b0_b2)]⟩)] (.agg [.sc (.int .i64 r.1.X), .sc (.int .i64 r.1.Y)]) [(1, ⟨39, false, [.ptr 2 0]⟩), (2, ⟨82, false, [.rd β1 r.2.1.length (r.2.1.flatMap enc8), .sc (.int .i64 r.2.2.1), .sc (.bool r.2.2.2)]⟩)] := by
  refine Spec.of (fn := Try.f67) Try.func67 Try.ntmps67 rfl rfl (le1 rfl) (fun w0 Zs Zb T0 ι0 => ?_)
  unfold m67 at h
  refine AWP.seq ?_
  refine AWP.region (.cons (.alloc (t := 3) (k := ⟨60, false, [.sc (.int .i64 (0 : Int)), .sc (.int .i64 (0 : Int))]⟩) (lt1 rfl) (nm rfl) zero60 rfl rfl) <| ARun.nil _ _ _) ?_
  refine AWP.vc (s' := ⟨[(0, .ptr 1 0), (1, .ptr 3 0)], [(3, ⟨60, false, [.sc (.int .i64 (0 : Int)), .sc (.int .i64 (0 : Int))]⟩), (1, ⟨39, false, [.ptr 2 0]⟩), (2, ⟨82, false, [.rd β1 a0_b0_b0.length (a0_b0_b0.flatMap enc8), .sc (.int .i64 a0_b0_b1), .sc (.bool a0_b0_b2)]⟩)]⟩) (VC.sub (.c rfl <| .c rfl <| .n _) (.c rfl <| .c rfl <| .c rfl <| .n _)) ?_
  refine AWP.seq ?_
  obtain ⟨y_1, hy_1, h⟩ := bindS h
  refine AWP.region (.cons (.loadP (lt1 rfl) (.tmp rfl) one39 rfl rfl rfl) <| .cons (.call (σ := fun _ => 2) (bw := false) (lt1 rfl) (c17 (β1 := β1) n a0_b0_b0 a0_b0_b1 a0_b0_b2 hy_1) (.cons (.tmp rfl) (.ren rfl) (.nil)) (CallOk.mk' (.c rfl (.n)) rfl)) <| .cons (.assign (lt1 rfl) (.tmp rfl)) <| ARun.nil _ _ _) ?_
  refine AWP.vc (s' := ⟨[(0, .ptr 1 0), (1, .ptr 3 0), (2, .sc (.int .i64 y_1.1))], [(2, ⟨82, false, [.rd β1 y_1.2.1.length (y_1.2.1.flatMap enc8), .sc (.int .i64 y_1.2.2.1), .sc (.bool y_1.2.2.2)]⟩), (3, ⟨60, false, [.sc (.int .i64 (0 : Int)), .sc (.int .i64 (0 : Int))]⟩), (1, ⟨39, false, [.ptr 2 0]⟩)]⟩) (VC.sub (.c rfl <| .c rfl <| .c rfl <| .n _) (.c rfl <| .c rfl <| .c rfl <| .n _)) ?_
  refine AWP.seq ?_
  obtain ⟨y_2, hy_2, h⟩ := bindS h
  refine AWP.region (.cons (.move (lt1 rfl) (.tmp rfl)) <| .cons (.loadP (lt1 rfl) (.tmp rfl) one39 rfl rfl rfl) <| .cons (.call (σ := fun _ => 2) (bw := false) (lt1 rfl) (c17 (β1 := β1) n y_1.2.1 y_1.2.2.1 y_1.2.2.2 hy_2) (.cons (.tmp rfl) (.ren rfl) (.nil)) (CallOk.mk' (.c rfl (.n)) rfl)) <| .cons (.buildO (offs := [(0, 1), (1, 1)]) (lt1 rfl) (.cons (.tmp rfl) (by first | exact ⟨rfl, rfl⟩ | rfl) (.cons (.tmp rfl) (by first | exact ⟨rfl, rfl⟩ | rfl) (.nil))) zero60 offs60 rfl) <| .cons (.storePA (.tmp rfl) (.tmp rfl) sz60 rfl rfl (le1 rfl) (one_lit rfl) (by intro h; cases h) rfl) <| ARun.nil _ _ _) ?_
  refine AWP.ret ?_
  obtain rfl := Option.some.inj h
  refine retJ (Res.vc (s' := ⟨[(1, .ptr 3 0)], [(3, ⟨60, false, [.sc (.int .i64 y_1.1), .sc (.int .i64 y_2.1)]⟩), (1, ⟨39, false, [.ptr 2 0]⟩), (2, ⟨82, false, [.rd β1 y_2.2.1.length (y_2.2.1.flatMap enc8), .sc (.int .i64 y_2.2.2.1), .sc (.bool y_2.2.2.2)]⟩)]⟩) (VC.sub (.c rfl <| .n _) (.c rfl <| .c rfl <| .c rfl <| .n _)) ?_)
  refine Res.sub (H := [(3, ⟨60, false, [.sc (.int .i64 y_1.1), .sc (.int .i64 y_2.1)]⟩), (1, ⟨39, false, [.ptr 2 0]⟩), (2, ⟨82, false, [.rd β1 y_2.2.1.length (y_2.2.1.flatMap enc8), .sc (.int .i64 y_2.2.2.1), .sc (.bool y_2.2.2.2)]⟩)]) (.c rfl <| .c rfl <| .n _) ?_
  exact Res.of rfl (.cons (.cell rfl agg60 rfl rfl rfl rfl) (.nil)) rfl rfl
theorem c66 {β1 : Bool} (n : Nat) (a0_b0 : (List UInt8)) (a0_b1 : Int) (a0_b2 : Bool) {r : (R59 × (List UInt8) × Int × Bool)} (h : m66 n a0_b0 a0_b1 a0_b2 = some r) : Spec Try.prog 66 [1, 2] [.ptr 1 0, .clo (.func 67) [] [.ptr 2 0]] [(1, ⟨82, false, [.rd β1 a0_b0.length (a0_b0.flatMap enc8), .sc (.int .i64 a0_b1), .sc (.bool a0_b2)]⟩), (2, ⟨39, false, [.ptr 1 0]⟩)] (.agg [.sc (.int .i64 r.1.X), .sc (.int .i64 r.1.Y)]) [(1, ⟨82, false, [.rd β1 r.2.1.length (r.2.1.flatMap enc8), .sc (.int .i64 r.2.2.1), .sc (.bool r.2.2.2)]⟩), (2, ⟨39, false, [.ptr 1 0]⟩)] := by
  refine Spec.of (fn := Try.f66) Try.func66 Try.ntmps66 rfl rfl (le1 rfl) (fun w0 Zs Zb T0 ι0 => ?_)
  unfold m66 at h
  refine AWP.seq ?_
  refine AWP.region (.cons (.alloc (t := 3) (k := ⟨60, false, [.sc (.int .i64 (0 : Int)), .sc (.int .i64 (0 : Int))]⟩) (lt1 rfl) (nm rfl) zero60 rfl rfl) <| ARun.nil _ _ _) ?_
  refine AWP.vc (s' := ⟨[(0, .ptr 1 0), (1, .clo (.func 67) [] [.ptr 2 0]), (4, .ptr 3 0)], [(3, ⟨60, false, [.sc (.int .i64 (0 : Int)), .sc (.int .i64 (0 : Int))]⟩), (1, ⟨82, false, [.rd β1 a0_b0.length (a0_b0.flatMap enc8), .sc (.int .i64 a0_b1), .sc (.bool a0_b2)]⟩), (2, ⟨39, false, [.ptr 1 0]⟩)]⟩) (VC.sub (.c rfl <| .c rfl <| .c rfl <| .n _) (.c rfl <| .c rfl <| .c rfl <| .n _)) ?_
  refine AWP.seq ?_
  refine AWP.region (.cons (.alloc (t := 4) (k := ⟨60, false, [.sc (.int .i64 (0 : Int)), .sc (.int .i64 (0 : Int))]⟩) (lt1 rfl) (nm rfl) zero60 rfl rfl) <| ARun.nil _ _ _) ?_
  refine AWP.vc (s' := ⟨[(0, .ptr 1 0), (1, .clo (.func 67) [] [.ptr 2 0]), (4, .ptr 3 0), (5, .ptr 4 0)], [(4, ⟨60, false, [.sc (.int .i64 (0 : Int)), .sc (.int .i64 (0 : Int))]⟩), (3, ⟨60, false, [.sc (.int .i64 (0 : Int)), .sc (.int .i64 (0 : Int))]⟩), (1, ⟨82, false, [.rd β1 a0_b0.length (a0_b0.flatMap enc8), .sc (.int .i64 a0_b1), .sc (.bool a0_b2)]⟩), (2, ⟨39, false, [.ptr 1 0]⟩)]⟩) (VC.sub (.c rfl <| .c rfl <| .c rfl <| .c rfl <| .n _) (.c rfl <| .c rfl <| .c rfl <| .c rfl <| .n _)) ?_
  refine AWP.seq ?_
  refine AWP.seq ?_
  refine AWP.region (.cons (.move (lt1 rfl) (.tmp rfl)) <| .cons (.ptrNil0 (lt1 rfl) (.tmp rfl) Try.underlying39) <| .cons (.move (lt1 rfl) (.tmp rfl)) <| .guardT (j := 2) (dj := 10) rfl (lt1 rfl) rfl rfl (.move (lt1 rfl) (.tmp rfl)) <| .guardT (j := 2) (dj := 10) rfl (lt1 rfl) rfl rfl (.nilCheck (lt1 rfl) (.tmp rfl) trivial) <| .guardT (j := 2) (dj := 10) rfl (lt1 rfl) rfl rfl (.fieldP (lt1 rfl) (.tmp rfl) fld82_2) <| .guardT (j := 2) (dj := 10) rfl (lt1 rfl) rfl rfl (.loadP (lt1 rfl) (.tmp rfl) one4 rfl rfl rfl) <| .cons (.pickF (lt1 rfl) (.tmp rfl) rfl (.tmp rfl)) <| ARun.nil _ _ _) ?_
  refine AWP.vc (s' := ⟨[(0, .ptr 1 0), (1, .clo (.func 67) [] [.ptr 2 0]), (4, .ptr 3 0), (5, .ptr 4 0), (15, .sc (.bool a0_b2))], [(4, ⟨60, false, [.sc (.int .i64 (0 : Int)), .sc (.int .i64 (0 : Int))]⟩), (3, ⟨60, false, [.sc (.int .i64 (0 : Int)), .sc (.int .i64 (0 : Int))]⟩), (1, ⟨82, false, [.rd β1 a0_b0.length (a0_b0.flatMap enc8), .sc (.int .i64 a0_b1), .sc (.bool a0_b2)]⟩), (2, ⟨39, false, [.ptr 1 0]⟩)]⟩) (VC.sub (.c rfl <| .c rfl <| .c rfl <| .c rfl <| .c rfl <| .n _) (.c rfl <| .c rfl <| .c rfl <| .c rfl <| .n _)) ?_
  refine AWP.cond (.tmp rfl) (fun hc => ?_) (fun hc => ?_)
  · have h := iteT hc h
    refine AWP.seq ?_
    refine AWP.region (.cons (.loadPA (lt1 rfl) (.tmp rfl) agg60 rfl rfl rfl rfl) <| .cons (.storePA (.tmp rfl) (.tmp rfl) sz60 rfl rfl (le1 rfl) (one_lit rfl) (by intro h; cases h) rfl) <| ARun.nil _ _ _) ?_
    refine AWP.ret ?_
    obtain rfl := Option.some.inj h
    refine retJ (Res.vc (s' := ⟨[(4, .ptr 3 0)], [(3, ⟨60, false, [.sc (.int .i64 (0 : Int)), .sc (.int .i64 (0 : Int))]⟩), (1, ⟨82, false, [.rd β1 a0_b0.length (a0_b0.flatMap enc8), .sc (.int .i64 a0_b1), .sc (.bool a0_b2)]⟩), (2, ⟨39, false, [.ptr 1 0]⟩)]⟩) (VC.sub (.c rfl <| .n _) (.c rfl <| .c rfl <| .c rfl <| .n _)) ?_)
    refine Res.sub (H := [(3, ⟨60, false, [.sc (.int .i64 (0 : Int)), .sc (.int .i64 (0 : Int))]⟩), (1, ⟨82, false, [.rd β1 a0_b0.length (a0_b0.flatMap enc8), .sc (.int .i64 a0_b1), .sc (.bool a0_b2)]⟩), (2, ⟨39, false, [.ptr 1 0]⟩)]) (.c rfl <| .c rfl <| .n _) ?_
    exact Res.of rfl (.cons (.cell rfl agg60 rfl rfl rfl rfl) (.nil)) rfl rfl
  · have h := iteF hc h
    refine AWP.skip ?_
    refine AWP.seq ?_
    refine AWP.region (.cons (.move (lt1 rfl) (.tmp rfl)) <| .cons (.nilCheck (lt1 rfl) (.tmp rfl) trivial) <| .cons (.fieldP (lt1 rfl) (.tmp rfl) fld82_1) <| .cons (.loadP (lt1 rfl) (.tmp rfl) one3 rfl rfl rfl) <| .cons (.assign (lt1 rfl) (.tmp rfl)) <| ARun.nil _ _ _) ?_
    refine AWP.vc (s' := ⟨[(0, .ptr 1 0), (1, .clo (.func 67) [] [.ptr 2 0]), (4, .ptr 3 0), (5, .ptr 4 0), (6, .sc (.int .i64 a0_b1))], [(4, ⟨60, false, [.sc (.int .i64 (0 : Int)), .sc (.int .i64 (0 : Int))]⟩), (3, ⟨60, false, [.sc (.int .i64 (0 : Int)), .sc (.int .i64 (0 : Int))]⟩), (1, ⟨82, false, [.rd β1 a0_b0.length (a0_b0.flatMap enc8), .sc (.int .i64 a0_b1), .sc (.bool a0_b2)]⟩), (2, ⟨39, false, [.ptr 1 0]⟩)]⟩) (VC.sub (.c rfl <| .c rfl <| .c rfl <| .c rfl <| .c rfl <| .n _) (.c rfl <| .c rfl <| .c rfl <| .c rfl <| .n _)) ?_
    refine AWP.seq ?_
    obtain ⟨y_1, hy_1, h⟩ := bindS h
    refine AWP.region (.cons (.move (lt1 rfl) (.tmp rfl)) <| .cons (.callV (us' := []) (avs := []) (cs' := [.ptr 1 0]) (σ := sgT [(1, 2), (2, 1)]) (bw := false) (lt1 rfl) (.tmp rfl) (c67 (β1 := β1) n a0_b0 a0_b1 a0_b2 hy_1) (.nil) (.nil) (.cons (.ren rfl) (.nil)) (CallOk.mk' (.c rfl (.c rfl (.n))) rfl) (fun _ h => by cases h)) <| .cons (.alloc (t := 5) (k := ⟨60, false, [.sc (.int .i64 (0 : Int)), .sc (.int .i64 (0 : Int))]⟩) (lt1 rfl) (nm rfl) zero60 rfl rfl) <| .cons (.storePA (.tmp rfl) (.tmp rfl) sz60 rfl rfl (le1 rfl) (one_lit rfl) (by intro h; cases h) rfl) <| ARun.nil _ _ _) ?_
    refine AWP.vc (s' := ⟨[(0, .ptr 1 0), (4, .ptr 3 0), (5, .ptr 4 0), (6, .sc (.int .i64 a0_b1)), (7, .ptr 5 0)], [(5, ⟨60, false, [.sc (.int .i64 y_1.1.X), .sc (.int .i64 y_1.1.Y)]⟩), (2, ⟨39, false, [.ptr 1 0]⟩), (1, ⟨82, false, [.rd β1 y_1.2.1.length (y_1.2.1.flatMap enc8), .sc (.int .i64 y_1.2.2.1), .sc (.bool y_1.2.2.2)]⟩), (4, ⟨60, false, [.sc (.int .i64 (0 : Int)), .sc (.int .i64 (0 : Int))]⟩), (3, ⟨60, false, [.sc (.int .i64 (0 : Int)), .sc (.int .i64 (0 : Int))]⟩)]⟩) (VC.sub (.c rfl <| .c rfl <| .c rfl <| .c rfl <| .c rfl <| .n _) (.c rfl <| .c rfl <| .c rfl <| .c rfl <| .c rfl <| .n _)) ?_
    refine AWP.seq ?_
    refine AWP.seq ?_
    refine AWP.region (.cons (.move (lt1 rfl) (.tmp rfl)) <| .cons (.nilCheck (lt1 rfl) (.tmp rfl) trivial) <| .cons (.fieldP (lt1 rfl) (.tmp rfl) fld82_2) <| .cons (.loadP (lt1 rfl) (.tmp rfl) one4 rfl rfl rfl) <| ARun.nil _ _ _) ?_
    refine AWP.vc (s' := ⟨[(0, .ptr 1 0), (4, .ptr 3 0), (5, .ptr 4 0), (6, .sc (.int .i64 a0_b1)), (7, .ptr 5 0), (26, .sc (.bool y_1.2.2.2))], [(5, ⟨60, false, [.sc (.int .i64 y_1.1.X), .sc (.int .i64 y_1.1.Y)]⟩), (2, ⟨39, false, [.ptr 1 0]⟩), (1, ⟨82, false, [.rd β1 y_1.2.1.length (y_1.2.1.flatMap enc8), .sc (.int .i64 y_1.2.2.1), .sc (.bool y_1.2.2.2)]⟩), (4, ⟨60, false, [.sc (.int .i64 (0 : Int)), .sc (.int .i64 (0 : Int))]⟩), (3, ⟨60, false, [.sc (.int .i64 (0 : Int)), .sc (.int .i64 (0 : Int))]⟩)]⟩) (VC.sub (.c rfl <| .c rfl <| .c rfl <| .c rfl <| .c rfl <| .c rfl <| .n _) (.c rfl <| .c rfl <| .c rfl <| .c rfl <| .c rfl <| .n _)) ?_
    refine AWP.cond (.tmp rfl) (fun hc => ?_) (fun hc => ?_)
    · have h := iteT hc h
      refine AWP.seq ?_
      refine AWP.region (.cons (.move (lt1 rfl) (.tmp rfl)) <| .cons (.move (lt1 rfl) (.tmp rfl)) <| .cons (.nilCheck (lt1 rfl) (.tmp rfl) trivial) <| .cons (.fieldP (lt1 rfl) (.tmp rfl) fld82_1) <| .cons (.storeP (.tmp rfl) (.tmp rfl) sz3 rfl (lt1 rfl) rfl (by intro h; cases h) rfl) <| ARun.nil _ _ _) ?_
      refine AWP.vc (s' := ⟨[(4, .ptr 3 0), (5, .ptr 4 0)], [(2, ⟨39, false, [.ptr 1 0]⟩), (1, ⟨82, false, [.rd β1 y_1.2.1.length (y_1.2.1.flatMap enc8), .sc (.int .i64 a0_b1), .sc (.bool y_1.2.2.2)]⟩), (4, ⟨60, false, [.sc (.int .i64 (0 : Int)), .sc (.int .i64 (0 : Int))]⟩), (3, ⟨60, false, [.sc (.int .i64 (0 : Int)), .sc (.int .i64 (0 : Int))]⟩)]⟩) (VC.sub (.c rfl <| .c rfl <| .n _) (.c rfl <| .c rfl <| .c rfl <| .c rfl <| .n _)) ?_
      refine AWP.seq ?_
      refine AWP.region (.cons (.loadPA (lt1 rfl) (.tmp rfl) agg60 rfl rfl rfl rfl) <| .cons (.storePA (.tmp rfl) (.tmp rfl) sz60 rfl rfl (le1 rfl) (one_lit rfl) (by intro h; cases h) rfl) <| ARun.nil _ _ _) ?_
      refine AWP.ret ?_
      obtain rfl := Option.some.inj h
      refine retJ (Res.vc (s' := ⟨[(4, .ptr 3 0)], [(3, ⟨60, false, [.sc (.int .i64 (0 : Int)), .sc (.int .i64 (0 : Int))]⟩), (1, ⟨82, false, [.rd β1 y_1.2.1.length (y_1.2.1.flatMap enc8), .sc (.int .i64 a0_b1), .sc (.bool y_1.2.2.2)]⟩), (2, ⟨39, false, [.ptr 1 0]⟩)]⟩) (VC.sub (.c rfl <| .n _) (.c rfl <| .c rfl <| .c rfl <| .n _)) ?_)
      refine Res.sub (H := [(3, ⟨60, false, [.sc (.int .i64 (0 : Int)), .sc (.int .i64 (0 : Int))]⟩), (1, ⟨82, false, [.rd β1 y_1.2.1.length (y_1.2.1.flatMap enc8), .sc (.int .i64 a0_b1), .sc (.bool y_1.2.2.2)]⟩), (2, ⟨39, false, [.ptr 1 0]⟩)]) (.c rfl <| .c rfl <| .n _) ?_
      exact Res.of rfl (.cons (.cell rfl agg60 rfl rfl rfl rfl) (.nil)) rfl rfl
    · have h := iteF hc h
      refine AWP.skip ?_
      refine AWP.seq ?_
      refine AWP.region (.cons (.loadPA (lt1 rfl) (.tmp rfl) agg60 rfl rfl rfl rfl) <| .cons (.storePA (.tmp rfl) (.tmp rfl) sz60 rfl rfl (le1 rfl) (one_lit rfl) (by intro h; cases h) rfl) <| ARun.nil _ _ _) ?_
      refine AWP.ret ?_
      obtain rfl := Option.some.inj h
      refine retJ (Res.vc (s' := ⟨[(4, .ptr 3 0)], [(3, ⟨60, false, [.sc (.int .i64 y_1.1.X), .sc (.int .i64 y_1.1.Y)]⟩), (1, ⟨82, false, [.rd β1 y_1.2.1.length (y_1.2.1.flatMap enc8), .sc (.int .i64 y_1.2.2.1), .sc (.bool y_1.2.2.2)]⟩), (2, ⟨39, false, [.ptr 1 0]⟩)]⟩) (VC.sub (.c rfl <| .n _) (.c rfl <| .c rfl <| .c rfl <| .n _)) ?_)
      refine Res.sub (H := [(3, ⟨60, false, [.sc (.int .i64 y_1.1.X), .sc (.int .i64 y_1.1.Y)]⟩), (1, ⟨82, false, [.rd β1 y_1.2.1.length (y_1.2.1.flatMap enc8), .sc (.int .i64 y_1.2.2.1), .sc (.bool y_1.2.2.2)]⟩), (2, ⟨39, false, [.ptr 1 0]⟩)]) (.c rfl <| .c rfl <| .n _) ?_
      exact Res.of rfl (.cons (.cell rfl agg60 rfl rfl rfl rfl) (.nil)) rfl rfl
theorem c29 {β1 : Bool} (n : Nat) (a0_b0 : (List UInt8)) (a0_b1 : Int) (a0_b2 : Bool) {r : (R59 × (List UInt8) × Int × Bool)} (h : m29 n a0_b0 a0_b1 a0_b2 = some r) : Spec Try.prog 29 [1] [.ptr 1 0] [(1, ⟨82, false, [.rd β1 a0_b0.length (a0_b0.flatMap enc8), .sc (.int .i64 a0_b1), .sc (.bool a0_b2)]⟩)] (.agg [.sc (.int .i64 r.1.X), .sc (.int .i64 r.1.Y)]) [(1, ⟨82, false, [.rd β1 r.2.1.length (r.2.1.flatMap enc8), .sc (.int .i64 r.2.2.1), .sc (.bool r.2.2.2)]⟩)] := by
  refine Spec.of (fn := Try.f29) Try.func29 Try.ntmps29 rfl rfl (le1 rfl) (fun w0 Zs Zb T0 ι0 => ?_)
  unfold m29 at h
  refine AWP.seq ?_
  refine AWP.region (.cons (.box (t := 2) (n := 1) (lt1 rfl) (nm rfl) (.tmp rfl) (by first | exact ⟨rfl, rfl⟩ | rfl) rfl) <| .cons (.alloc (t := 3) (k := ⟨60, false, [.sc (.int .i64 (0 : Int)), .sc (.int .i64 (0 : Int))]⟩) (lt1 rfl) (nm rfl) zero60 rfl rfl) <| ARun.nil _ _ _) ?_
  refine AWP.vc (s' := ⟨[(1, .ptr 2 0), (2, .ptr 3 0)], [(3, ⟨60, false, [.sc (.int .i64 (0 : Int)), .sc (.int .i64 (0 : Int))]⟩), (2, ⟨39, false, [.ptr 1 0]⟩), (1, ⟨82, false, [.rd β1 a0_b0.length (a0_b0.flatMap enc8), .sc (.int .i64 a0_b1), .sc (.bool a0_b2)]⟩)]⟩) (VC.sub (.c rfl <| .c rfl <| .n _) (.c rfl <| .c rfl <| .c rfl <| .n _)) ?_
  refine AWP.seq ?_
  obtain ⟨y_1, hy_1, h⟩ := bindS h
  refine AWP.region (.cons (.loadP (lt1 rfl) (.tmp rfl) one39 rfl rfl rfl) <| .cons (.makeFunc (lt1 rfl) (.nil) (.cons (.tmp rfl) (.nil))) <| .cons (.call (σ := sgT [(1, 1), (2, 2)]) (bw := false) (lt1 rfl) (c66 (β1 := β1) n a0_b0 a0_b1 a0_b2 hy_1) (.cons (.tmp rfl) (.ren rfl) (.cons (.tmp rfl) (.ren rfl) (.nil))) (CallOk.mk' (.c rfl (.c rfl (.n))) rfl)) <| .cons (.storePA (.tmp rfl) (.tmp rfl) sz60 rfl rfl (le1 rfl) (one_lit rfl) (by intro h; cases h) rfl) <| ARun.nil _ _ _) ?_
  refine AWP.ret ?_
  obtain rfl := Option.some.inj h
  refine retJ (Res.vc (s' := ⟨[(2, .ptr 3 0)], [(3, ⟨60, false, [.sc (.int .i64 y_1.1.X), .sc (.int .i64 y_1.1.Y)]⟩), (1, ⟨82, false, [.rd β1 y_1.2.1.length (y_1.2.1.flatMap enc8), .sc (.int .i64 y_1.2.2.1), .sc (.bool y_1.2.2.2)]⟩)]⟩) (VC.sub (.c rfl <| .n _) (.c rfl <| .c rfl <| .n _)) ?_)
  refine Res.sub (H := [(3, ⟨60, false, [.sc (.int .i64 y_1.1.X), .sc (.int .i64 y_1.1.Y)]⟩), (1, ⟨82, false, [.rd β1 y_1.2.1.length (y_1.2.1.flatMap enc8), .sc (.int .i64 y_1.2.2.1), .sc (.bool y_1.2.2.2)]⟩)]) (.c rfl <| .n _) ?_
  exact Res.of rfl (.cons (.cell rfl agg60 rfl rfl rfl rfl) (.nil)) rfl rfl
theorem c78 {β1 : Bool} (n : Nat) (a0_b0_b0 : (List UInt8)) (a0_b0_b1 : Int) (a0_b0_b2 : Bool) (a1_b0 : Int) {r : ((List R59) × (List UInt8) × Int × Bool)} (h : m78 n a0_b0_b0 a0_b0_b1 a0_b0_b2 a1_b0 = some r) : Spec Try.prog 78 [1, 2, 3, 4] [.ptr 1 0, .ptr 3 0, .ptr 4 0] [(1, ⟨39, false, [.ptr 2 0]⟩), (2, ⟨82, false, [.rd β1 a0_b0_b0.length (a0_b0_b0.flatMap enc8), .sc (.int .i64 a0_b0_b1), .sc (.bool a0_b0_b2)]⟩), (3, ⟨3, false, [.sc (.int .i64 a1_b0)]⟩), (4, ⟨61, false, [.clo (.func 29) [.ptr 2 0] []]⟩)] (.rd false r.1.length (r.1.flatMap encR59)) [(1, ⟨39, false, [.ptr 2 0]⟩), (2, ⟨82, false, [.rd β1 r.2.1.length (r.2.1.flatMap enc8), .sc (.int .i64 r.2.2.1), .sc (.bool r.2.2.2)]⟩), (3, ⟨3, false, [.sc (.int .i64 a1_b0)]⟩), (4, ⟨61, false, [.clo (.func 29) [.ptr 2 0] []]⟩)] := by
  refine Spec.of (fn := Try.f78) Try.func78 Try.ntmps78 rfl rfl (le1 rfl) (fun w0 Zs Zb T0 ι0 => ?_)
  unfold m78 at h
  refine AWP.seq ?_
  refine AWP.region (.cons (.assign (lt1 rfl) (.const _ _ _)) <| ARun.nil _ _ _) ?_
  refine AWP.vc (s' := ⟨[(0, .ptr 1 0), (1, .ptr 3 0), (2, .ptr 4 0)], [(1, ⟨39, false, [.ptr 2 0]⟩), (2, ⟨82, false, [.rd β1 a0_b0_b0.length (a0_b0_b0.flatMap enc8), .sc (.int .i64 a0_b0_b1), .sc (.bool a0_b0_b2)]⟩), (3, ⟨3, false, [.sc (.int .i64 a1_b0)]⟩), (4, ⟨61, false, [.clo (.func 29) [.ptr 2 0] []]⟩)]⟩) (VC.sub (.c rfl <| .c rfl <| .c rfl <| .n _) (.c rfl <| .c rfl <| .c rfl <| .c rfl <| .n _)) ?_
  refine AWP.seq ?_
  refine AWP.region (.cons (.assign (lt1 rfl) (.const _ _ _)) <| ARun.nil _ _ _) ?_
  refine AWP.vc (s' := ⟨[(0, .ptr 1 0), (1, .ptr 3 0), (2, .ptr 4 0), (4, .sc (.slice none 0 0))], [(1, ⟨39, false, [.ptr 2 0]⟩), (2, ⟨82, false, [.rd β1 a0_b0_b0.length (a0_b0_b0.flatMap enc8), .sc (.int .i64 a0_b0_b1), .sc (.bool a0_b0_b2)]⟩), (3, ⟨3, false, [.sc (.int .i64 a1_b0)]⟩), (4, ⟨61, false, [.clo (.func 29) [.ptr 2 0] []]⟩)]⟩) (VC.sub (.c rfl <| .c rfl <| .c rfl <| .c rfl <| .n _) (.c rfl <| .c rfl <| .c rfl <| .c rfl <| .n _)) ?_
  refine AWP.seq ?_
  refine AWP.seq ?_
  obtain ⟨y_1, hy_1, h⟩ := bindS h
  refine AWP.region (.cons (.loadP (lt1 rfl) (.tmp rfl) one39 rfl rfl rfl) <| .cons (.loadP (lt1 rfl) (.tmp rfl) one3 rfl rfl rfl) <| .cons (.call (σ := fun _ => 2) (bw := false) (lt1 rfl) (c25 (β1 := β1) n a0_b0_b0 a0_b0_b1 a0_b0_b2 (0 : Int) a1_b0 hy_1) (.cons (.tmp rfl) (.ren rfl) (.cons (.const _ _ _) (.ren rfl) (.cons (.tmp rfl) (.ren rfl) (.nil)))) (CallOk.mk' (.c rfl (.n)) rfl)) <| .cons (.assign (lt1 rfl) (.tmp rfl)) <| ARun.nil _ _ _) ?_
  refine AWP.vc (s' := ⟨[(0, .ptr 1 0), (2, .ptr 4 0), (4, .sc (.slice none 0 0)), (5, .sc (.int .i64 y_1.1))], [(2, ⟨82, false, [.rd β1 y_1.2.1.length (y_1.2.1.flatMap enc8), .sc (.int .i64 y_1.2.2.1), .sc (.bool y_1.2.2.2)]⟩), (1, ⟨39, false, [.ptr 2 0]⟩), (3, ⟨3, false, [.sc (.int .i64 a1_b0)]⟩), (4, ⟨61, false, [.clo (.func 29) [.ptr 2 0] []]⟩)]⟩) (VC.sub (.c rfl <| .c rfl <| .c rfl <| .c rfl <| .n _) (.c rfl <| .c rfl <| .c rfl <| .c rfl <| .n _)) ?_
  refine AWP.joinB' (S := fun p_15 : (List UInt8) × Int × Bool × (List R59) => ⟨[(4, .own 5 2 0 p_15.2.2.2.length)], [(1, ⟨39, false, [.ptr 2 0]⟩), (2, ⟨82, false, [.rd β1 p_15.1.length (p_15.1.flatMap enc8), .sc (.int .i64 p_15.2.1), .sc (.bool p_15.2.2.1)]⟩), (3, ⟨3, false, [.sc (.int .i64 a1_b0)]⟩), (4, ⟨61, false, [.clo (.func 29) [.ptr 2 0] []]⟩), (5, ⟨60, true, p_15.2.2.2.flatMap encR59⟩)]⟩) h (fun p_15 h => ?_) (fun k_16 h => ?_)
  · refine AWP.seq ?_
    refine AWP.region (.cons (.move (lt1 rfl) (.tmp rfl)) <| .cons (.assign (lt1 rfl) (.tmp rfl)) <| ARun.nil _ _ _) ?_
    refine AWP.ret ?_
    obtain rfl := Option.some.inj h
    refine retJ (Res.vc (s' := ⟨[(3, .rd false p_15.2.2.2.length (p_15.2.2.2.flatMap encR59))], [(1, ⟨39, false, [.ptr 2 0]⟩), (2, ⟨82, false, [.rd β1 p_15.1.length (p_15.1.flatMap enc8), .sc (.int .i64 p_15.2.1), .sc (.bool p_15.2.2.1)]⟩), (3, ⟨3, false, [.sc (.int .i64 a1_b0)]⟩), (4, ⟨61, false, [.clo (.func 29) [.ptr 2 0] []]⟩)]⟩) (VC.trans (VC.frz (d := 3) (t := 5) rfl rfl encR59_len) (VC.sub (.c rfl <| .n _) (.c rfl <| .c rfl <| .c rfl <| .c rfl <| .n _))) ?_)
    refine Res.sub (H := [(1, ⟨39, false, [.ptr 2 0]⟩), (2, ⟨82, false, [.rd β1 p_15.1.length (p_15.1.flatMap enc8), .sc (.int .i64 p_15.2.1), .sc (.bool p_15.2.2.1)]⟩), (3, ⟨3, false, [.sc (.int .i64 a1_b0)]⟩), (4, ⟨61, false, [.clo (.func 29) [.ptr 2 0] []]⟩)]) (.c rfl <| .c rfl <| .c rfl <| .c rfl <| .n _) ?_
    exact Res.of rfl (.cons (.tmp rfl) (.nil)) rfl rfl
  · refine AWP.vc (VC.nilOwn (d := 4) (t := 5) (sz := 2) (E := 60) rfl (nm rfl)) ?_
    refine AWP.vc (s' := ⟨[(0, .ptr 1 0), (2, .ptr 4 0), (4, .own 5 2 0 ([] : List R59).length), (5, .sc (.int .i64 y_1.1))], [(1, ⟨39, false, [.ptr 2 0]⟩), (2, ⟨82, false, [.rd β1 y_1.2.1.length (y_1.2.1.flatMap enc8), .sc (.int .i64 y_1.2.2.1), .sc (.bool y_1.2.2.2)]⟩), (3, ⟨3, false, [.sc (.int .i64 a1_b0)]⟩), (4, ⟨61, false, [.clo (.func 29) [.ptr 2 0] []]⟩), (5, ⟨60, true, ([] : List R59).flatMap encR59⟩)]⟩) (VC.sub (.c rfl <| .c rfl <| .c rfl <| .c rfl <| .n _) (.c rfl <| .c rfl <| .c rfl <| .c rfl <| .c rfl <| .n _)) ?_
    refine AWP.loopM (S := fun x_10 : Int × (List UInt8) × Int × Bool × (List R59) => ⟨[(0, .ptr 1 0), (2, .ptr 4 0), (4, .own 5 2 0 x_10.2.2.2.2.length), (5, .sc (.int .i64 x_10.1))], [(1, ⟨39, false, [.ptr 2 0]⟩), (2, ⟨82, false, [.rd β1 x_10.2.1.length (x_10.2.1.flatMap enc8), .sc (.int .i64 x_10.2.2.1), .sc (.bool x_10.2.2.2.1)]⟩), (3, ⟨3, false, [.sc (.int .i64 a1_b0)]⟩), (4, ⟨61, false, [.clo (.func 29) [.ptr 2 0] []]⟩), (5, ⟨60, true, x_10.2.2.2.2.flatMap encR59⟩)]⟩) (x := (y_1.1, y_1.2.1, y_1.2.2.1, y_1.2.2.2, ([] : List R59))) (fun nx_11 x_10 h => ?_) h
    unfold m78_L1 at h
    refine AWP.seq ?_
    refine AWP.seq ?_
    refine AWP.region (.cons (.move (lt1 rfl) (.tmp rfl)) <| .cons (.gtr (lt1 rfl) (.tmp rfl) (.const _ _ _)) <| .cons (.move (lt1 rfl) (.tmp rfl)) <| .guard (j := 2) (dj := 11) rfl (lt1 rfl) rfl (lt1 rfl) (fun hg => .loadP (lt1 rfl) (.tmp rfl) one39 rfl rfl rfl) <| .guard (j := 2) (dj := 11) rfl (lt1 rfl) rfl (lt1 rfl) (fun hg => .nilCheck (lt1 rfl) (.gd hg (.tmp rfl)) trivial) <| .guard (j := 2) (dj := 11) rfl (lt1 rfl) rfl (lt1 rfl) (fun hg => .fieldP (lt1 rfl) (.gd hg (.tmp rfl)) fld82_2) <| .guard (j := 2) (dj := 11) rfl (lt1 rfl) rfl (lt1 rfl) (fun hg => .loadP (lt1 rfl) (.gd hg (.tmp rfl)) one4 rfl rfl rfl) <| .guard (j := 2) (dj := 11) rfl (lt1 rfl) rfl (lt1 rfl) (fun hg => .not (lt1 rfl) (.gd hg (.tmp rfl))) <| .cons (.pickAnd (lt1 rfl) (.tmp rfl) (.tmp rfl) (.const _ _ _)) <| ARun.nil _ _ _) ?_
    refine AWP.vc (s' := ⟨[(0, .ptr 1 0), (2, .ptr 4 0), (4, .own 5 2 0 x_10.2.2.2.2.length), (5, .sc (.int .i64 x_10.1)), (17, .sc (.bool ((decide ((0 : Int) < x_10.1)) && (!x_10.2.2.2.1))))], [(1, ⟨39, false, [.ptr 2 0]⟩), (2, ⟨82, false, [.rd β1 x_10.2.1.length (x_10.2.1.flatMap enc8), .sc (.int .i64 x_10.2.2.1), .sc (.bool x_10.2.2.2.1)]⟩), (3, ⟨3, false, [.sc (.int .i64 a1_b0)]⟩), (4, ⟨61, false, [.clo (.func 29) [.ptr 2 0] []]⟩), (5, ⟨60, true, x_10.2.2.2.2.flatMap encR59⟩)]⟩) (VC.sub (.c rfl <| .c rfl <| .c rfl <| .c rfl <| .c rfl <| .n _) (.c rfl <| .c rfl <| .c rfl <| .c rfl <| .c rfl <| .n _)) ?_
    refine AWP.cond (.tmp rfl) (fun hc => ?_) (fun hc => ?_)
    · have h := iteT hc h
      refine AWP.skip ?_
      refine AWP.seq ?_
      refine AWP.block ?_
      obtain ⟨y_12, hy_12, h⟩ := bindS h
      obtain ⟨l5_13, hl5_13, h⟩ := bindS h
      refine AWP.region (.cons (.move (lt1 rfl) (.tmp rfl)) <| .cons (.loadP (lt1 rfl) (.tmp rfl) one61 rfl rfl rfl) <| .cons (.callV (us' := [.ptr 1 0]) (avs := []) (cs' := []) (σ := fun _ => 2) (bw := false) (lt1 rfl) (.tmp rfl) (c29 (β1 := β1) n x_10.2.1 x_10.2.2.1 x_10.2.2.2.1 hy_12) (.cons (.ren rfl) (.nil)) (.nil) (.nil) (CallOk.mk' (.c rfl (.n)) rfl) (fun _ h => by cases h)) <| .cons (.buildSlice (t := 6) (out := ([y_12.1] : List R59).flatMap encR59) (lt1 rfl) (nm rfl) (.cons (.tmp rfl) (by first | exact ⟨rfl, rfl⟩ | rfl) (.nil)) Try.underlying24 zero60 el60 (by decide) (by decide) rfl (still_all encR59_still _)) <| .cons (.app (enc := encR59) (lt1 rfl) (nm rfl) (.tmp rfl) (Src.own (.tmp rfl) rfl (lendAll encR59_len _) (flatMap_length encR59_len _) (one_all encR59_one _) (.inl rfl)) Try.underlying24 ⟨_, Try.underlying24, by intro k hk; cases hk⟩ el60 rfl encR59_len rfl rfl (by decide) hl5_13) <| .cons (.assign (lt1 rfl) (.tmp rfl)) <| ARun.nil _ _ _) ?_
      refine AWP.vc (s' := ⟨[(0, .ptr 1 0), (2, .ptr 4 0), (4, .own 5 2 0 l5_13.length), (5, .sc (.int .i64 x_10.1))], [(5, ⟨60, true, l5_13.flatMap encR59⟩), (2, ⟨82, false, [.rd β1 y_12.2.1.length (y_12.2.1.flatMap enc8), .sc (.int .i64 y_12.2.2.1), .sc (.bool y_12.2.2.2)]⟩), (1, ⟨39, false, [.ptr 2 0]⟩), (3, ⟨3, false, [.sc (.int .i64 a1_b0)]⟩), (4, ⟨61, false, [.clo (.func 29) [.ptr 2 0] []]⟩)]⟩) (VC.sub (.c rfl <| .c rfl <| .c rfl <| .c rfl <| .n _) (.c rfl <| .c rfl <| .c rfl <| .c rfl <| .c rfl <| .n _)) ?_
      obtain ⟨t5_14, ht5_14, h⟩ := letS h
      refine AWP.region (.cons (.move (lt1 rfl) (.tmp rfl)) <| .cons (.sub (lt1 rfl) (.tmp rfl) (.const _ _ _)) <| .cons (.assign (lt1 rfl) (.tmp rfl)) <| ARun.nil _ _ _) ?_
      exact endJ (t5_14, y_12.2.1, y_12.2.2.1, y_12.2.2.2, l5_13) h (by subst ht5_14; exact VC.sub (.c rfl <| .c rfl <| .c rfl <| .c rfl <| .n _) (.c rfl <| .c rfl <| .c rfl <| .c rfl <| .c rfl <| .n _))
    · have h := iteF hc h
      refine AWP.exit ?_
      exact endJ (x_10.2.1, x_10.2.2.1, x_10.2.2.2.1, x_10.2.2.2.2) h (VC.sub (.c rfl <| .n _) (.c rfl <| .c rfl <| .c rfl <| .c rfl <| .c rfl <| .n _))
theorem c77 {β1 : Bool} (n : Nat) (a0_b0 : (List UInt8)) (a0_b1 : Int) (a0_b2 : Bool) (a1_1_b0 : Int) {r : ((List R59) × (List UInt8) × Int × Bool)} (h : m77 n a0_b0 a0_b1 a0_b2 a1_1_b0 = some r) : Spec Try.prog 77 [1, 2, 3, 4] [.ptr 1 0, .clo (.func 78) [] [.ptr 2 0, .ptr 3 0, .ptr 4 0]] [(1, ⟨82, false, [.rd β1 a0_b0.length (a0_b0.flatMap enc8), .sc (.int .i64 a0_b1), .sc (.bool a0_b2)]⟩), (2, ⟨39, false, [.ptr 1 0]⟩), (3, ⟨3, false, [.sc (.int .i64 a1_1_b0)]⟩), (4, ⟨61, false, [.clo (.func 29) [.ptr 1 0] []]⟩)] (.rd false r.1.length (r.1.flatMap encR59)) [(1, ⟨82, false, [.rd β1 r.2.1.length (r.2.1.flatMap enc8), .sc (.int .i64 r.2.2.1), .sc (.bool r.2.2.2)]⟩), (2, ⟨39, false, [.ptr 1 0]⟩), (3, ⟨3, false, [.sc (.int .i64 a1_1_b0)]⟩), (4, ⟨61, false, [.clo (.func 29) [.ptr 1 0] []]⟩)] := by
  refine Spec.of (fn := Try.f77) Try.func77 Try.ntmps77 rfl rfl (le1 rfl) (fun w0 Zs Zb T0 ι0 => ?_)
  unfold m77 at h
  refine AWP.seq ?_
  refine AWP.region (.cons (.assign (lt1 rfl) (.const _ _ _)) <| ARun.nil _ _ _) ?_
  refine AWP.vc (s' := ⟨[(0, .ptr 1 0), (1, .clo (.func 78) [] [.ptr 2 0, .ptr 3 0, .ptr 4 0])], [(1, ⟨82, false, [.rd β1 a0_b0.length (a0_b0.flatMap enc8), .sc (.int .i64 a0_b1), .sc (.bool a0_b2)]⟩), (2, ⟨39, false, [.ptr 1 0]⟩), (3, ⟨3, false, [.sc (.int .i64 a1_1_b0)]⟩), (4, ⟨61, false, [.clo (.func 29) [.ptr 1 0] []]⟩)]⟩) (VC.sub (.c rfl <| .c rfl <| .n _) (.c rfl <| .c rfl <| .c rfl <| .c rfl <| .n _)) ?_
  refine AWP.seq ?_
  refine AWP.region (.cons (.assign (lt1 rfl) (.const _ _ _)) <| ARun.nil _ _ _) ?_
  refine AWP.vc (s' := ⟨[(0, .ptr 1 0), (1, .clo (.func 78) [] [.ptr 2 0, .ptr 3 0, .ptr 4 0]), (5, .sc (.slice none 0 0))], [(1, ⟨82, false, [.rd β1 a0_b0.length (a0_b0.flatMap enc8), .sc (.int .i64 a0_b1), .sc (.bool a0_b2)]⟩), (2, ⟨39, false, [.ptr 1 0]⟩), (3, ⟨3, false, [.sc (.int .i64 a1_1_b0)]⟩), (4, ⟨61, false, [.clo (.func 29) [.ptr 1 0] []]⟩)]⟩) (VC.sub (.c rfl <| .c rfl <| .c rfl <| .n _) (.c rfl <| .c rfl <| .c rfl <| .c rfl <| .n _)) ?_
  refine AWP.seq ?_
  refine AWP.seq ?_
  refine AWP.region (.cons (.move (lt1 rfl) (.tmp rfl)) <| .cons (.ptrNil0 (lt1 rfl) (.tmp rfl) Try.underlying39) <| .cons (.move (lt1 rfl) (.tmp rfl)) <| .guardT (j := 2) (dj := 10) rfl (lt1 rfl) rfl rfl (.move (lt1 rfl) (.tmp rfl)) <| .guardT (j := 2) (dj := 10) rfl (lt1 rfl) rfl rfl (.nilCheck (lt1 rfl) (.tmp rfl) trivial) <| .guardT (j := 2) (dj := 10) rfl (lt1 rfl) rfl rfl (.fieldP (lt1 rfl) (.tmp rfl) fld82_2) <| .guardT (j := 2) (dj := 10) rfl (lt1 rfl) rfl rfl (.loadP (lt1 rfl) (.tmp rfl) one4 rfl rfl rfl) <| .cons (.pickF (lt1 rfl) (.tmp rfl) rfl (.tmp rfl)) <| ARun.nil _ _ _) ?_
  refine AWP.vc (s' := ⟨[(0, .ptr 1 0), (1, .clo (.func 78) [] [.ptr 2 0, .ptr 3 0, .ptr 4 0]), (5, .sc (.slice none 0 0)), (15, .sc (.bool a0_b2))], [(1, ⟨82, false, [.rd β1 a0_b0.length (a0_b0.flatMap enc8), .sc (.int .i64 a0_b1), .sc (.bool a0_b2)]⟩), (2, ⟨39, false, [.ptr 1 0]⟩), (3, ⟨3, false, [.sc (.int .i64 a1_1_b0)]⟩), (4, ⟨61, false, [.clo (.func 29) [.ptr 1 0] []]⟩)]⟩) (VC.sub (.c rfl <| .c rfl <| .c rfl <| .c rfl <| .n _) (.c rfl <| .c rfl <| .c rfl <| .c rfl <| .n _)) ?_
  refine AWP.cond (.tmp rfl) (fun hc => ?_) (fun hc => ?_)
  · have h := iteT hc h
    refine AWP.seq ?_
    refine AWP.region (.cons (.move (lt1 rfl) (.tmp rfl)) <| .cons (.assign (lt1 rfl) (.tmp rfl)) <| ARun.nil _ _ _) ?_
    refine AWP.ret ?_
    obtain rfl := Option.some.inj h
    refine retJ (Res.vc (s' := ⟨[(4, .rd false ([] : List R59).length (([] : List R59).flatMap encR59))], [(1, ⟨82, false, [.rd β1 a0_b0.length (a0_b0.flatMap enc8), .sc (.int .i64 a0_b1), .sc (.bool a0_b2)]⟩), (2, ⟨39, false, [.ptr 1 0]⟩), (3, ⟨3, false, [.sc (.int .i64 a1_1_b0)]⟩), (4, ⟨61, false, [.clo (.func 29) [.ptr 1 0] []]⟩)]⟩) (VC.trans (VC.nilRd (d := 4) false rfl) (VC.sub (.c rfl <| .n _) (.c rfl <| .c rfl <| .c rfl <| .c rfl <| .n _))) ?_)
    refine Res.sub (H := [(1, ⟨82, false, [.rd β1 a0_b0.length (a0_b0.flatMap enc8), .sc (.int .i64 a0_b1), .sc (.bool a0_b2)]⟩), (2, ⟨39, false, [.ptr 1 0]⟩), (3, ⟨3, false, [.sc (.int .i64 a1_1_b0)]⟩), (4, ⟨61, false, [.clo (.func 29) [.ptr 1 0] []]⟩)]) (.c rfl <| .c rfl <| .c rfl <| .c rfl <| .n _) ?_
    exact Res.of rfl (.cons (.tmp rfl) (.nil)) rfl rfl
  · have h := iteF hc h
    refine AWP.skip ?_
    refine AWP.seq ?_
    refine AWP.region (.cons (.move (lt1 rfl) (.tmp rfl)) <| .cons (.nilCheck (lt1 rfl) (.tmp rfl) trivial) <| .cons (.fieldP (lt1 rfl) (.tmp rfl) fld82_1) <| .cons (.loadP (lt1 rfl) (.tmp rfl) one3 rfl rfl rfl) <| .cons (.assign (lt1 rfl) (.tmp rfl)) <| ARun.nil _ _ _) ?_
    refine AWP.vc (s' := ⟨[(0, .ptr 1 0), (1, .clo (.func 78) [] [.ptr 2 0, .ptr 3 0, .ptr 4 0]), (5, .sc (.slice none 0 0)), (6, .sc (.int .i64 a0_b1))], [(1, ⟨82, false, [.rd β1 a0_b0.length (a0_b0.flatMap enc8), .sc (.int .i64 a0_b1), .sc (.bool a0_b2)]⟩), (2, ⟨39, false, [.ptr 1 0]⟩), (3, ⟨3, false, [.sc (.int .i64 a1_1_b0)]⟩), (4, ⟨61, false, [.clo (.func 29) [.ptr 1 0] []]⟩)]⟩) (VC.sub (.c rfl <| .c rfl <| .c rfl <| .c rfl <| .n _) (.c rfl <| .c rfl <| .c rfl <| .c rfl <| .n _)) ?_
    refine AWP.seq ?_
    obtain ⟨y_1, hy_1, h⟩ := bindS h
    refine AWP.region (.cons (.move (lt1 rfl) (.tmp rfl)) <| .cons (.callV (us' := []) (avs := []) (cs' := [.ptr 1 0, .ptr 3 0, .ptr 4 0]) (σ := sgT [(1, 2), (2, 1), (3, 3), (4, 4)]) (bw := false) (lt1 rfl) (.tmp rfl) (c78 (β1 := β1) n a0_b0 a0_b1 a0_b2 a1_1_b0 hy_1) (.nil) (.nil) (.cons (.ren rfl) (.cons (.ren rfl) (.cons (.ren rfl) (.nil)))) (CallOk.mk' (.c rfl (.c rfl (.c rfl (.c rfl (.n))))) rfl) (fun _ h => by cases h)) <| .cons (.assign (lt1 rfl) (.tmp rfl)) <| ARun.nil _ _ _) ?_
    refine AWP.vc (s' := ⟨[(0, .ptr 1 0), (5, .sc (.slice none 0 0)), (6, .sc (.int .i64 a0_b1)), (7, .rd false y_1.1.length (y_1.1.flatMap encR59))], [(2, ⟨39, false, [.ptr 1 0]⟩), (1, ⟨82, false, [.rd β1 y_1.2.1.length (y_1.2.1.flatMap enc8), .sc (.int .i64 y_1.2.2.1), .sc (.bool y_1.2.2.2)]⟩), (3, ⟨3, false, [.sc (.int .i64 a1_1_b0)]⟩), (4, ⟨61, false, [.clo (.func 29) [.ptr 1 0] []]⟩)]⟩) (VC.sub (.c rfl <| .c rfl <| .c rfl <| .c rfl <| .n _) (.c rfl <| .c rfl <| .c rfl <| .c rfl <| .n _)) ?_
    refine AWP.seq ?_
    refine AWP.seq ?_
    refine AWP.region (.cons (.move (lt1 rfl) (.tmp rfl)) <| .cons (.nilCheck (lt1 rfl) (.tmp rfl) trivial) <| .cons (.fieldP (lt1 rfl) (.tmp rfl) fld82_2) <| .cons (.loadP (lt1 rfl) (.tmp rfl) one4 rfl rfl rfl) <| ARun.nil _ _ _) ?_
    refine AWP.vc (s' := ⟨[(0, .ptr 1 0), (5, .sc (.slice none 0 0)), (6, .sc (.int .i64 a0_b1)), (7, .rd false y_1.1.length (y_1.1.flatMap encR59)), (26, .sc (.bool y_1.2.2.2))], [(2, ⟨39, false, [.ptr 1 0]⟩), (1, ⟨82, false, [.rd β1 y_1.2.1.length (y_1.2.1.flatMap enc8), .sc (.int .i64 y_1.2.2.1), .sc (.bool y_1.2.2.2)]⟩), (3, ⟨3, false, [.sc (.int .i64 a1_1_b0)]⟩), (4, ⟨61, false, [.clo (.func 29) [.ptr 1 0] []]⟩)]⟩) (VC.sub (.c rfl <| .c rfl <| .c rfl <| .c rfl <| .c rfl <| .n _) (.c rfl <| .c rfl <| .c rfl <| .c rfl <| .n _)) ?_
    refine AWP.cond (.tmp rfl) (fun hc => ?_) (fun hc => ?_)
    · have h := iteT hc h
      refine AWP.seq ?_
      refine AWP.region (.cons (.move (lt1 rfl) (.tmp rfl)) <| .cons (.move (lt1 rfl) (.tmp rfl)) <| .cons (.nilCheck (lt1 rfl) (.tmp rfl) trivial) <| .cons (.fieldP (lt1 rfl) (.tmp rfl) fld82_1) <| .cons (.storeP (.tmp rfl) (.tmp rfl) sz3 rfl (lt1 rfl) rfl (by intro h; cases h) rfl) <| ARun.nil _ _ _) ?_
      refine AWP.vc (s' := ⟨[(5, .sc (.slice none 0 0))], [(2, ⟨39, false, [.ptr 1 0]⟩), (1, ⟨82, false, [.rd β1 y_1.2.1.length (y_1.2.1.flatMap enc8), .sc (.int .i64 a0_b1), .sc (.bool y_1.2.2.2)]⟩), (3, ⟨3, false, [.sc (.int .i64 a1_1_b0)]⟩), (4, ⟨61, false, [.clo (.func 29) [.ptr 1 0] []]⟩)]⟩) (VC.sub (.c rfl <| .n _) (.c rfl <| .c rfl <| .c rfl <| .c rfl <| .n _)) ?_
      refine AWP.seq ?_
      refine AWP.region (.cons (.move (lt1 rfl) (.tmp rfl)) <| .cons (.assign (lt1 rfl) (.tmp rfl)) <| ARun.nil _ _ _) ?_
      refine AWP.ret ?_
      obtain rfl := Option.some.inj h
      refine retJ (Res.vc (s' := ⟨[(4, .rd false ([] : List R59).length (([] : List R59).flatMap encR59))], [(1, ⟨82, false, [.rd β1 y_1.2.1.length (y_1.2.1.flatMap enc8), .sc (.int .i64 a0_b1), .sc (.bool y_1.2.2.2)]⟩), (2, ⟨39, false, [.ptr 1 0]⟩), (3, ⟨3, false, [.sc (.int .i64 a1_1_b0)]⟩), (4, ⟨61, false, [.clo (.func 29) [.ptr 1 0] []]⟩)]⟩) (VC.trans (VC.nilRd (d := 4) false rfl) (VC.sub (.c rfl <| .n _) (.c rfl <| .c rfl <| .c rfl <| .c rfl <| .n _))) ?_)
      refine Res.sub (H := [(1, ⟨82, false, [.rd β1 y_1.2.1.length (y_1.2.1.flatMap enc8), .sc (.int .i64 a0_b1), .sc (.bool y_1.2.2.2)]⟩), (2, ⟨39, false, [.ptr 1 0]⟩), (3, ⟨3, false, [.sc (.int .i64 a1_1_b0)]⟩), (4, ⟨61, false, [.clo (.func 29) [.ptr 1 0] []]⟩)]) (.c rfl <| .c rfl <| .c rfl <| .c rfl <| .n _) ?_
      exact Res.of rfl (.cons (.tmp rfl) (.nil)) rfl rfl
    · have h := iteF hc h
      refine AWP.skip ?_
      refine AWP.seq ?_
      refine AWP.region (.cons (.move (lt1 rfl) (.tmp rfl)) <| .cons (.assign (lt1 rfl) (.tmp rfl)) <| ARun.nil _ _ _) ?_
      refine AWP.ret ?_
      obtain rfl := Option.some.inj h
      refine retJ (Res.vc (s' := ⟨[(4, .rd false y_1.1.length (y_1.1.flatMap encR59))], [(1, ⟨82, false, [.rd β1 y_1.2.1.length (y_1.2.1.flatMap enc8), .sc (.int .i64 y_1.2.2.1), .sc (.bool y_1.2.2.2)]⟩), (2, ⟨39, false, [.ptr 1 0]⟩), (3, ⟨3, false, [.sc (.int .i64 a1_1_b0)]⟩), (4, ⟨61, false, [.clo (.func 29) [.ptr 1 0] []]⟩)]⟩) (VC.sub (.c rfl <| .n _) (.c rfl <| .c rfl <| .c rfl <| .c rfl <| .n _)) ?_)
      refine Res.sub (H := [(1, ⟨82, false, [.rd β1 y_1.2.1.length (y_1.2.1.flatMap enc8), .sc (.int .i64 y_1.2.2.1), .sc (.bool y_1.2.2.2)]⟩), (2, ⟨39, false, [.ptr 1 0]⟩), (3, ⟨3, false, [.sc (.int .i64 a1_1_b0)]⟩), (4, ⟨61, false, [.clo (.func 29) [.ptr 1 0] []]⟩)]) (.c rfl <| .c rfl <| .c rfl <| .c rfl <| .n _) ?_
      exact Res.of rfl (.cons (.tmp rfl) (.nil)) rfl rfl
theorem c68 {β1 : Bool} (n : Nat) (a0_b0 : (List UInt8)) (a0_b1 : Int) (a0_b2 : Bool) (a1 : Int) {r : ((List R59) × (List UInt8) × Int × Bool)} (h : m68 n a0_b0 a0_b1 a0_b2 a1 = some r) : Spec Try.prog 68 [1] [.ptr 1 0, .sc (.int .i64 a1), .clo (.func 29) [.ptr 1 0] []] [(1, ⟨82, false, [.rd β1 a0_b0.length (a0_b0.flatMap enc8), .sc (.int .i64 a0_b1), .sc (.bool a0_b2)]⟩)] (.rd false r.1.length (r.1.flatMap encR59)) [(1, ⟨82, false, [.rd β1 r.2.1.length (r.2.1.flatMap enc8), .sc (.int .i64 r.2.2.1), .sc (.bool r.2.2.2)]⟩)] := by
  refine Spec.of (fn := Try.f68) Try.func68 Try.ntmps68 rfl rfl (le1 rfl) (fun w0 Zs Zb T0 ι0 => ?_)
  unfold m68 at h
  refine AWP.seq ?_
  refine AWP.region (.cons (.box (t := 2) (n := 1) (lt1 rfl) (nm rfl) (.tmp rfl) (by first | exact ⟨rfl, rfl⟩ | rfl) rfl) <| .cons (.box (t := 3) (n := 1) (lt1 rfl) (nm rfl) (.tmp rfl) (by first | exact ⟨rfl, rfl⟩ | rfl) rfl) <| .cons (.box (t := 4) (n := 1) (lt1 rfl) (nm rfl) (.tmp rfl) (by first | exact ⟨rfl, rfl⟩ | rfl) rfl) <| .cons (.assign (lt1 rfl) (.const _ _ _)) <| ARun.nil _ _ _) ?_
  refine AWP.vc (s' := ⟨[(3, .ptr 2 0), (4, .ptr 3 0), (5, .ptr 4 0)], [(4, ⟨61, false, [.clo (.func 29) [.ptr 1 0] []]⟩), (3, ⟨3, false, [.sc (.int .i64 a1)]⟩), (2, ⟨39, false, [.ptr 1 0]⟩), (1, ⟨82, false, [.rd β1 a0_b0.length (a0_b0.flatMap enc8), .sc (.int .i64 a0_b1), .sc (.bool a0_b2)]⟩)]⟩) (VC.sub (.c rfl <| .c rfl <| .c rfl <| .n _) (.c rfl <| .c rfl <| .c rfl <| .c rfl <| .n _)) ?_
  refine AWP.seq ?_
  obtain ⟨y_1, hy_1, h⟩ := bindS h
  refine AWP.region (.cons (.loadP (lt1 rfl) (.tmp rfl) one39 rfl rfl rfl) <| .cons (.makeFunc (lt1 rfl) (.nil) (.cons (.tmp rfl) (.cons (.tmp rfl) (.cons (.tmp rfl) (.nil))))) <| .cons (.call (σ := sgT [(1, 1), (2, 2), (3, 3), (4, 4)]) (bw := false) (lt1 rfl) (c77 (β1 := β1) n a0_b0 a0_b1 a0_b2 a1 hy_1) (.cons (.tmp rfl) (.ren rfl) (.cons (.tmp rfl) (.ren rfl) (.nil))) (CallOk.mk' (.c rfl (.c rfl (.c rfl (.c rfl (.n))))) rfl)) <| .cons (.assign (lt1 rfl) (.tmp rfl)) <| ARun.nil _ _ _) ?_
  refine AWP.ret ?_
  obtain rfl := Option.some.inj h
  refine retJ (Res.vc (s' := ⟨[(6, .rd false y_1.1.length (y_1.1.flatMap encR59))], [(1, ⟨82, false, [.rd β1 y_1.2.1.length (y_1.2.1.flatMap enc8), .sc (.int .i64 y_1.2.2.1), .sc (.bool y_1.2.2.2)]⟩)]⟩) (VC.sub (.c rfl <| .n _) (.c rfl <| .n _)) ?_)
  refine Res.sub (H := [(1, ⟨82, false, [.rd β1 y_1.2.1.length (y_1.2.1.flatMap enc8), .sc (.int .i64 y_1.2.2.1), .sc (.bool y_1.2.2.2)]⟩)]) (.c rfl <| .n _) ?_
  exact Res.of rfl (.cons (.tmp rfl) (.nil)) rfl rfl
theorem c30 {β1 : Bool} (n : Nat) (a0_b0 : (List UInt8)) (a0_b1 : Int) (a0_b2 : Bool) (a1 : Int) {r : ((List R59) × (List UInt8) × Int × Bool)} (h : m30 n a0_b0 a0_b1 a0_b2 a1 = some r) : Spec Try.prog 30 [1] [.ptr 1 0, .sc (.int .i64 a1)] [(1, ⟨82, false, [.rd β1 a0_b0.length (a0_b0.flatMap enc8), .sc (.int .i64 a0_b1), .sc (.bool a0_b2)]⟩)] (.rd false r.1.length (r.1.flatMap encR59)) [(1, ⟨82, false, [.rd β1 r.2.1.length (r.2.1.flatMap enc8), .sc (.int .i64 r.2.2.1), .sc (.bool r.2.2.2)]⟩)] := by
  refine Spec.of (fn := Try.f30) Try.func30 Try.ntmps30 rfl rfl (le1 rfl) (fun w0 Zs Zb T0 ι0 => ?_)
  unfold m30 at h
  refine AWP.seq ?_
  refine AWP.region (.cons (.assign (lt1 rfl) (.const _ _ _)) <| ARun.nil _ _ _) ?_
  refine AWP.vc (s' := ⟨[(0, .ptr 1 0), (1, .sc (.int .i64 a1))], [(1, ⟨82, false, [.rd β1 a0_b0.length (a0_b0.flatMap enc8), .sc (.int .i64 a0_b1), .sc (.bool a0_b2)]⟩)]⟩) (VC.sub (.c rfl <| .c rfl <| .n _) (.c rfl <| .n _)) ?_
  refine AWP.seq ?_
  obtain ⟨y_1, hy_1, h⟩ := bindS h
  refine AWP.region (.cons (.move (lt1 rfl) (.tmp rfl)) <| .cons (.move (lt1 rfl) (.tmp rfl)) <| .cons (.move (lt1 rfl) (.tmp rfl)) <| .cons (.makeFunc (lt1 rfl) (.cons (.tmp rfl) (.nil)) (.nil)) <| .cons (.call (σ := fun _ => 1) (bw := false) (lt1 rfl) (c68 (β1 := β1) n a0_b0 a0_b1 a0_b2 a1 hy_1) (.cons (.tmp rfl) (.ren rfl) (.cons (.tmp rfl) (.ren rfl) (.cons (.tmp rfl) (.ren rfl) (.nil)))) (CallOk.mk' (.c rfl (.n)) rfl)) <| .cons (.assign (lt1 rfl) (.tmp rfl)) <| ARun.nil _ _ _) ?_
  refine AWP.ret ?_
  obtain rfl := Option.some.inj h
  refine retJ (Res.vc (s' := ⟨[(4, .rd false y_1.1.length (y_1.1.flatMap encR59))], [(1, ⟨82, false, [.rd β1 y_1.2.1.length (y_1.2.1.flatMap enc8), .sc (.int .i64 y_1.2.2.1), .sc (.bool y_1.2.2.2)]⟩)]⟩) (VC.sub (.c rfl <| .n _) (.c rfl <| .n _)) ?_)
  refine Res.sub (H := [(1, ⟨82, false, [.rd β1 y_1.2.1.length (y_1.2.1.flatMap enc8), .sc (.int .i64 y_1.2.2.1), .sc (.bool y_1.2.2.2)]⟩)]) (.c rfl <| .n _) ?_
  exact Res.of rfl (.cons (.tmp rfl) (.nil)) rfl rfl
theorem c48 {β1 : Bool} (n : Nat) (a0_b0_b0 : (List UInt8)) (a0_b0_b1 : Int) (a0_b0_b2 : Bool) {r : ((List R59) × (List UInt8) × Int × Bool)} (h : m48 n a0_b0_b0 a0_b0_b1 a0_b0_b2 = some r) : Spec Try.prog 48 [1, 2] [.ptr 1 0] [(1, ⟨39, false, [.ptr 2 0]⟩), (2, ⟨82, false, [.rd β1 a0_b0_b0.length (a0_b0_b0.flatMap enc8), .sc (.int .i64 a0_b0_b1), .sc (.bool a0_b0_b2)]⟩)] (.rd false r.1.length (r.1.flatMap encR59)) [(1, ⟨39, false, [.ptr 2 0]⟩), (2, ⟨82, false, [.rd β1 r.2.1.length (r.2.1.flatMap enc8), .sc (.int .i64 r.2.2.1), .sc (.bool r.2.2.2)]⟩)] := by
  refine Spec.of (fn := Try.f48) Try.func48 Try.ntmps48 rfl rfl (le1 rfl) (fun w0 Zs Zb T0 ι0 => ?_)
  unfold m48 at h
  refine AWP.seq ?_
  refine AWP.region (.cons (.assign (lt1 rfl) (.const _ _ _)) <| ARun.nil _ _ _) ?_
  refine AWP.vc (s' := ⟨[(0, .ptr 1 0)], [(1, ⟨39, false, [.ptr 2 0]⟩), (2, ⟨82, false, [.rd β1 a0_b0_b0.length (a0_b0_b0.flatMap enc8), .sc (.int .i64 a0_b0_b1), .sc (.bool a0_b0_b2)]⟩)]⟩) (VC.sub (.c rfl <| .n _) (.c rfl <| .c rfl <| .n _)) ?_
  refine AWP.seq ?_
  obtain ⟨y_1, hy_1, h⟩ := bindS h
  refine AWP.region (.cons (.loadP (lt1 rfl) (.tmp rfl) one39 rfl rfl rfl) <| .cons (.call (σ := fun _ => 2) (bw := false) (lt1 rfl) (c30 (β1 := β1) n a0_b0_b0 a0_b0_b1 a0_b0_b2 (40 : Int) hy_1) (.cons (.tmp rfl) (.ren rfl) (.cons (.const _ _ _) (.ren rfl) (.nil))) (CallOk.mk' (.c rfl (.n)) rfl)) <| .cons (.assign (lt1 rfl) (.tmp rfl)) <| ARun.nil _ _ _) ?_
  refine AWP.ret ?_
  obtain rfl := Option.some.inj h
  refine retJ (Res.vc (s' := ⟨[(1, .rd false y_1.1.length (y_1.1.flatMap encR59))], [(1, ⟨39, false, [.ptr 2 0]⟩), (2, ⟨82, false, [.rd β1 y_1.2.1.length (y_1.2.1.flatMap enc8), .sc (.int .i64 y_1.2.2.1), .sc (.bool y_1.2.2.2)]⟩)]⟩) (VC.sub (.c rfl <| .n _) (.c rfl <| .c rfl <| .n _)) ?_)
  refine Res.sub (H := [(1, ⟨39, false, [.ptr 2 0]⟩), (2, ⟨82, false, [.rd β1 y_1.2.1.length (y_1.2.1.flatMap enc8), .sc (.int .i64 y_1.2.2.1), .sc (.bool y_1.2.2.2)]⟩)]) (.c rfl <| .c rfl <| .n _) ?_
  exact Res.of rfl (.cons (.tmp rfl) (.nil)) rfl rfl
theorem c72 {β1 : Bool} (n : Nat) (a0_b0_b0 : (List UInt8)) (a0_b0_b1 : Int) (a0_b0_b2 : Bool) (a1_b0 : Int) {r : ((List (List R59)) × (List UInt8) × Int × Bool)} (h : m72 n a0_b0_b0 a0_b0_b1 a0_b0_b2 a1_b0 = some r) : Spec Try.prog 72 [1, 2, 3, 4, 5] [.ptr 1 0, .ptr 3 0, .ptr 4 0] [(1, ⟨39, false, [.ptr 2 0]⟩), (2, ⟨82, false, [.rd β1 a0_b0_b0.length (a0_b0_b0.flatMap enc8), .sc (.int .i64 a0_b0_b1), .sc (.bool a0_b0_b2)]⟩), (3, ⟨3, false, [.sc (.int .i64 a1_b0)]⟩), (4, ⟨87, false, [.clo (.func 48) [] [.ptr 5 0]]⟩), (5, ⟨39, false, [.ptr 2 0]⟩)] (.rd false r.1.length (r.1.flatMap encL59)) [(1, ⟨39, false, [.ptr 2 0]⟩), (2, ⟨82, false, [.rd β1 r.2.1.length (r.2.1.flatMap enc8), .sc (.int .i64 r.2.2.1), .sc (.bool r.2.2.2)]⟩), (3, ⟨3, false, [.sc (.int .i64 a1_b0)]⟩), (4, ⟨87, false, [.clo (.func 48) [] [.ptr 5 0]]⟩), (5, ⟨39, false, [.ptr 2 0]⟩)] := by
  refine Spec.of (fn := Try.f72) Try.func72 Try.ntmps72 rfl rfl (le1 rfl) (fun w0 Zs Zb T0 ι0 => ?_)
  unfold m72 at h
  refine AWP.seq ?_
  refine AWP.region (.cons (.assign (lt1 rfl) (.const _ _ _)) <| ARun.nil _ _ _) ?_
  refine AWP.vc (s' := ⟨[(0, .ptr 1 0), (1, .ptr 3 0), (2, .ptr 4 0)], [(1, ⟨39, false, [.ptr 2 0]⟩), (2, ⟨82, false, [.rd β1 a0_b0_b0.length (a0_b0_b0.flatMap enc8), .sc (.int .i64 a0_b0_b1), .sc (.bool a0_b0_b2)]⟩), (3, ⟨3, false, [.sc (.int .i64 a1_b0)]⟩), (4, ⟨87, false, [.clo (.func 48) [] [.ptr 5 0]]⟩), (5, ⟨39, false, [.ptr 2 0]⟩)]⟩) (VC.sub (.c rfl <| .c rfl <| .c rfl <| .n _) (.c rfl <| .c rfl <| .c rfl <| .c rfl <| .c rfl <| .n _)) ?_
  refine AWP.seq ?_
  refine AWP.region (.cons (.assign (lt1 rfl) (.const _ _ _)) <| ARun.nil _ _ _) ?_
  refine AWP.vc (s' := ⟨[(0, .ptr 1 0), (1, .ptr 3 0), (2, .ptr 4 0), (4, .sc (.slice none 0 0))], [(1, ⟨39, false, [.ptr 2 0]⟩), (2, ⟨82, false, [.rd β1 a0_b0_b0.length (a0_b0_b0.flatMap enc8), .sc (.int .i64 a0_b0_b1), .sc (.bool a0_b0_b2)]⟩), (3, ⟨3, false, [.sc (.int .i64 a1_b0)]⟩), (4, ⟨87, false, [.clo (.func 48) [] [.ptr 5 0]]⟩), (5, ⟨39, false, [.ptr 2 0]⟩)]⟩) (VC.sub (.c rfl <| .c rfl <| .c rfl <| .c rfl <| .n _) (.c rfl <| .c rfl <| .c rfl <| .c rfl <| .c rfl <| .n _)) ?_
  refine AWP.seq ?_
  refine AWP.seq ?_
  obtain ⟨y_1, hy_1, h⟩ := bindS h
  refine AWP.region (.cons (.loadP (lt1 rfl) (.tmp rfl) one39 rfl rfl rfl) <| .cons (.loadP (lt1 rfl) (.tmp rfl) one3 rfl rfl rfl) <| .cons (.call (σ := fun _ => 2) (bw := false) (lt1 rfl) (c25 (β1 := β1) n a0_b0_b0 a0_b0_b1 a0_b0_b2 (0 : Int) a1_b0 hy_1) (.cons (.tmp rfl) (.ren rfl) (.cons (.const _ _ _) (.ren rfl) (.cons (.tmp rfl) (.ren rfl) (.nil)))) (CallOk.mk' (.c rfl (.n)) rfl)) <| .cons (.assign (lt1 rfl) (.tmp rfl)) <| ARun.nil _ _ _) ?_
  refine AWP.vc (s' := ⟨[(0, .ptr 1 0), (2, .ptr 4 0), (4, .sc (.slice none 0 0)), (5, .sc (.int .i64 y_1.1))], [(2, ⟨82, false, [.rd β1 y_1.2.1.length (y_1.2.1.flatMap enc8), .sc (.int .i64 y_1.2.2.1), .sc (.bool y_1.2.2.2)]⟩), (1, ⟨39, false, [.ptr 2 0]⟩), (3, ⟨3, false, [.sc (.int .i64 a1_b0)]⟩), (4, ⟨87, false, [.clo (.func 48) [] [.ptr 5 0]]⟩), (5, ⟨39, false, [.ptr 2 0]⟩)]⟩) (VC.sub (.c rfl <| .c rfl <| .c rfl <| .c rfl <| .n _) (.c rfl <| .c rfl <| .c rfl <| .c rfl <| .c rfl <| .n _)) ?_
  refine AWP.joinB' (S := fun p_15 : (List UInt8) × Int × Bool × (List (List R59)) => ⟨[(4, .own 6 1 0 p_15.2.2.2.length)], [(1, ⟨39, false, [.ptr 2 0]⟩), (2, ⟨82, false, [.rd β1 p_15.1.length (p_15.1.flatMap enc8), .sc (.int .i64 p_15.2.1), .sc (.bool p_15.2.2.1)]⟩), (3, ⟨3, false, [.sc (.int .i64 a1_b0)]⟩), (4, ⟨87, false, [.clo (.func 48) [] [.ptr 5 0]]⟩), (5, ⟨39, false, [.ptr 2 0]⟩), (6, ⟨25, true, p_15.2.2.2.flatMap encL59⟩)]⟩) h (fun p_15 h => ?_) (fun k_16 h => ?_)
  · refine AWP.seq ?_
    refine AWP.region (.cons (.move (lt1 rfl) (.tmp rfl)) <| .cons (.assign (lt1 rfl) (.tmp rfl)) <| ARun.nil _ _ _) ?_
    refine AWP.ret ?_
    obtain rfl := Option.some.inj h
    refine retJ (Res.vc (s' := ⟨[(3, .rd false p_15.2.2.2.length (p_15.2.2.2.flatMap encL59))], [(1, ⟨39, false, [.ptr 2 0]⟩), (2, ⟨82, false, [.rd β1 p_15.1.length (p_15.1.flatMap enc8), .sc (.int .i64 p_15.2.1), .sc (.bool p_15.2.2.1)]⟩), (3, ⟨3, false, [.sc (.int .i64 a1_b0)]⟩), (4, ⟨87, false, [.clo (.func 48) [] [.ptr 5 0]]⟩), (5, ⟨39, false, [.ptr 2 0]⟩)]⟩) (VC.trans (VC.frz (d := 3) (t := 6) rfl rfl encL59_len) (VC.sub (.c rfl <| .n _) (.c rfl <| .c rfl <| .c rfl <| .c rfl <| .c rfl <| .n _))) ?_)
    refine Res.sub (H := [(1, ⟨39, false, [.ptr 2 0]⟩), (2, ⟨82, false, [.rd β1 p_15.1.length (p_15.1.flatMap enc8), .sc (.int .i64 p_15.2.1), .sc (.bool p_15.2.2.1)]⟩), (3, ⟨3, false, [.sc (.int .i64 a1_b0)]⟩), (4, ⟨87, false, [.clo (.func 48) [] [.ptr 5 0]]⟩), (5, ⟨39, false, [.ptr 2 0]⟩)]) (.c rfl <| .c rfl <| .c rfl <| .c rfl <| .c rfl <| .n _) ?_
    exact Res.of rfl (.cons (.tmp rfl) (.nil)) rfl rfl
  · refine AWP.vc (VC.nilOwn (d := 4) (t := 6) (sz := 1) (E := 25) rfl (nm rfl)) ?_
    refine AWP.vc (s' := ⟨[(0, .ptr 1 0), (2, .ptr 4 0), (4, .own 6 1 0 ([] : List (List R59)).length), (5, .sc (.int .i64 y_1.1))], [(1, ⟨39, false, [.ptr 2 0]⟩), (2, ⟨82, false, [.rd β1 y_1.2.1.length (y_1.2.1.flatMap enc8), .sc (.int .i64 y_1.2.2.1), .sc (.bool y_1.2.2.2)]⟩), (3, ⟨3, false, [.sc (.int .i64 a1_b0)]⟩), (4, ⟨87, false, [.clo (.func 48) [] [.ptr 5 0]]⟩), (5, ⟨39, false, [.ptr 2 0]⟩), (6, ⟨25, true, ([] : List (List R59)).flatMap encL59⟩)]⟩) (VC.sub (.c rfl <| .c rfl <| .c rfl <| .c rfl <| .n _) (.c rfl <| .c rfl <| .c rfl <| .c rfl <| .c rfl <| .c rfl <| .n _)) ?_
    refine AWP.loopM (S := fun x_10 : Int × (List UInt8) × Int × Bool × (List (List R59)) => ⟨[(0, .ptr 1 0), (2, .ptr 4 0), (4, .own 6 1 0 x_10.2.2.2.2.length), (5, .sc (.int .i64 x_10.1))], [(1, ⟨39, false, [.ptr 2 0]⟩), (2, ⟨82, false, [.rd β1 x_10.2.1.length (x_10.2.1.flatMap enc8), .sc (.int .i64 x_10.2.2.1), .sc (.bool x_10.2.2.2.1)]⟩), (3, ⟨3, false, [.sc (.int .i64 a1_b0)]⟩), (4, ⟨87, false, [.clo (.func 48) [] [.ptr 5 0]]⟩), (5, ⟨39, false, [.ptr 2 0]⟩), (6, ⟨25, true, x_10.2.2.2.2.flatMap encL59⟩)]⟩) (x := (y_1.1, y_1.2.1, y_1.2.2.1, y_1.2.2.2, ([] : List (List R59)))) (fun nx_11 x_10 h => ?_) h
    unfold m72_L1 at h
    refine AWP.seq ?_
    refine AWP.seq ?_
    refine AWP.region (.cons (.move (lt1 rfl) (.tmp rfl)) <| .cons (.gtr (lt1 rfl) (.tmp rfl) (.const _ _ _)) <| .cons (.move (lt1 rfl) (.tmp rfl)) <| .guard (j := 2) (dj := 11) rfl (lt1 rfl) rfl (lt1 rfl) (fun hg => .loadP (lt1 rfl) (.tmp rfl) one39 rfl rfl rfl) <| .guard (j := 2) (dj := 11) rfl (lt1 rfl) rfl (lt1 rfl) (fun hg => .nilCheck (lt1 rfl) (.gd hg (.tmp rfl)) trivial) <| .guard (j := 2) (dj := 11) rfl (lt1 rfl) rfl (lt1 rfl) (fun hg => .fieldP (lt1 rfl) (.gd hg (.tmp rfl)) fld82_2) <| .guard (j := 2) (dj := 11) rfl (lt1 rfl) rfl (lt1 rfl) (fun hg => .loadP (lt1 rfl) (.gd hg (.tmp rfl)) one4 rfl rfl rfl) <| .guard (j := 2) (dj := 11) rfl (lt1 rfl) rfl (lt1 rfl) (fun hg => .not (lt1 rfl) (.gd hg (.tmp rfl))) <| .cons (.pickAnd (lt1 rfl) (.tmp rfl) (.tmp rfl) (.const _ _ _)) <| ARun.nil _ _ _) ?_
    refine AWP.vc (s' := ⟨[(0, .ptr 1 0), (2, .ptr 4 0), (4, .own 6 1 0 x_10.2.2.2.2.length), (5, .sc (.int .i64 x_10.1)), (17, .sc (.bool ((decide ((0 : Int) < x_10.1)) && (!x_10.2.2.2.1))))], [(1, ⟨39, false, [.ptr 2 0]⟩), (2, ⟨82, false, [.rd β1 x_10.2.1.length (x_10.2.1.flatMap enc8), .sc (.int .i64 x_10.2.2.1), .sc (.bool x_10.2.2.2.1)]⟩), (3, ⟨3, false, [.sc (.int .i64 a1_b0)]⟩), (4, ⟨87, false, [.clo (.func 48) [] [.ptr 5 0]]⟩), (5, ⟨39, false, [.ptr 2 0]⟩), (6, ⟨25, true, x_10.2.2.2.2.flatMap encL59⟩)]⟩) (VC.sub (.c rfl <| .c rfl <| .c rfl <| .c rfl <| .c rfl <| .n _) (.c rfl <| .c rfl <| .c rfl <| .c rfl <| .c rfl <| .c rfl <| .n _)) ?_
    refine AWP.cond (.tmp rfl) (fun hc => ?_) (fun hc => ?_)
    · have h := iteT hc h
      refine AWP.skip ?_
      refine AWP.seq ?_
      refine AWP.block ?_
      obtain ⟨y_12, hy_12, h⟩ := bindS h
      obtain ⟨l6_13, hl6_13, h⟩ := bindS h
      refine AWP.region (.cons (.move (lt1 rfl) (.tmp rfl)) <| .cons (.loadP (lt1 rfl) (.tmp rfl) one87 rfl rfl rfl) <| .cons (.callV (us' := []) (avs := []) (cs' := [.ptr 1 0]) (σ := sgT [(1, 5), (2, 2)]) (bw := false) (lt1 rfl) (.tmp rfl) (c48 (β1 := β1) n x_10.2.1 x_10.2.2.1 x_10.2.2.2.1 hy_12) (.nil) (.nil) (.cons (.ren rfl) (.nil)) (CallOk.mk' (.c rfl (.c rfl (.n))) rfl) (fun _ h => by cases h)) <| .cons (.buildSlice (t := 7) (out := ([y_12.1] : List (List R59)).flatMap encL59) (lt1 rfl) (nm rfl) (.cons (.tmp rfl) (by first | exact ⟨rfl, rfl⟩ | rfl) (.nil)) Try.underlying26 zero25 el25 (by decide) (by decide) rfl (still_all encL59_still _)) <| .cons (.app (enc := encL59) (lt1 rfl) (nm rfl) (.tmp rfl) (Src.own (.tmp rfl) rfl (lendAll encL59_len _) (flatMap_length encL59_len _) (one_all encL59_one _) (.inl rfl)) Try.underlying26 ⟨_, Try.underlying26, by intro k hk; cases hk⟩ el25 rfl encL59_len rfl rfl (by decide) hl6_13) <| .cons (.assign (lt1 rfl) (.tmp rfl)) <| ARun.nil _ _ _) ?_
      refine AWP.vc (s' := ⟨[(0, .ptr 1 0), (2, .ptr 4 0), (4, .own 6 1 0 l6_13.length), (5, .sc (.int .i64 x_10.1))], [(6, ⟨25, true, l6_13.flatMap encL59⟩), (5, ⟨39, false, [.ptr 2 0]⟩), (2, ⟨82, false, [.rd β1 y_12.2.1.length (y_12.2.1.flatMap enc8), .sc (.int .i64 y_12.2.2.1), .sc (.bool y_12.2.2.2)]⟩), (1, ⟨39, false, [.ptr 2 0]⟩), (3, ⟨3, false, [.sc (.int .i64 a1_b0)]⟩), (4, ⟨87, false, [.clo (.func 48) [] [.ptr 5 0]]⟩)]⟩) (VC.sub (.c rfl <| .c rfl <| .c rfl <| .c rfl <| .n _) (.c rfl <| .c rfl <| .c rfl <| .c rfl <| .c rfl <| .c rfl <| .n _)) ?_
      obtain ⟨t5_14, ht5_14, h⟩ := letS h
      refine AWP.region (.cons (.move (lt1 rfl) (.tmp rfl)) <| .cons (.sub (lt1 rfl) (.tmp rfl) (.const _ _ _)) <| .cons (.assign (lt1 rfl) (.tmp rfl)) <| ARun.nil _ _ _) ?_
      exact endJ (t5_14, y_12.2.1, y_12.2.2.1, y_12.2.2.2, l6_13) h (by subst ht5_14; exact VC.sub (.c rfl <| .c rfl <| .c rfl <| .c rfl <| .n _) (.c rfl <| .c rfl <| .c rfl <| .c rfl <| .c rfl <| .c rfl <| .n _))
    · have h := iteF hc h
      refine AWP.exit ?_
      exact endJ (x_10.2.1, x_10.2.2.1, x_10.2.2.2.1, x_10.2.2.2.2) h (VC.sub (.c rfl <| .n _) (.c rfl <| .c rfl <| .c rfl <| .c rfl <| .c rfl <| .c rfl <| .n _))
theorem c71 {β1 : Bool} (n : Nat) (a0_b0 : (List UInt8)) (a0_b1 : Int) (a0_b2 : Bool) (a1_1_b0 : Int) {r : ((List (List R59)) × (List UInt8) × Int × Bool)} (h : m71 n a0_b0 a0_b1 a0_b2 a1_1_b0 = some r) : Spec Try.prog 71 [1, 2, 3, 4, 5] [.ptr 1 0, .clo (.func 72) [] [.ptr 2 0, .ptr 3 0, .ptr 4 0]] [(1, ⟨82, false, [.rd β1 a0_b0.length (a0_b0.flatMap enc8), .sc (.int .i64 a0_b1), .sc (.bool a0_b2)]⟩), (2, ⟨39, false, [.ptr 1 0]⟩), (3, ⟨3, false, [.sc (.int .i64 a1_1_b0)]⟩), (4, ⟨87, false, [.clo (.func 48) [] [.ptr 5 0]]⟩), (5, ⟨39, false, [.ptr 1 0]⟩)] (.rd false r.1.length (r.1.flatMap encL59)) [(1, ⟨82, false, [.rd β1 r.2.1.length (r.2.1.flatMap enc8), .sc (.int .i64 r.2.2.1), .sc (.bool r.2.2.2)]⟩), (2, ⟨39, false, [.ptr 1 0]⟩), (3, ⟨3, false, [.sc (.int .i64 a1_1_b0)]⟩), (4, ⟨87, false, [.clo (.func 48) [] [.ptr 5 0]]⟩), (5, ⟨39, false, [.ptr 1 0]⟩)] := by
  refine Spec.of (fn := Try.f71) Try.func71 Try.ntmps71 rfl rfl (le1 rfl) (fun w0 Zs Zb T0 ι0 => ?_)
  unfold m71 at h
  refine AWP.seq ?_
  refine AWP.region (.cons (.assign (lt1 rfl) (.const _ _ _)) <| ARun.nil _ _ _) ?_
  refine AWP.vc (s' := ⟨[(0, .ptr 1 0), (1, .clo (.func 72) [] [.ptr 2 0, .ptr 3 0, .ptr 4 0])], [(1, ⟨82, false, [.rd β1 a0_b0.length (a0_b0.flatMap enc8), .sc (.int .i64 a0_b1), .sc (.bool a0_b2)]⟩), (2, ⟨39, false, [.ptr 1 0]⟩), (3, ⟨3, false, [.sc (.int .i64 a1_1_b0)]⟩), (4, ⟨87, false, [.clo (.func 48) [] [.ptr 5 0]]⟩), (5, ⟨39, false, [.ptr 1 0]⟩)]⟩) (VC.sub (.c rfl <| .c rfl <| .n _) (.c rfl <| .c rfl <| .c rfl <| .c rfl <| .c rfl <| .n _)) ?_
  refine AWP.seq ?_
  refine AWP.region (.cons (.assign (lt1 rfl) (.const _ _ _)) <| ARun.nil _ _ _) ?_
  refine AWP.vc (s' := ⟨[(0, .ptr 1 0), (1, .clo (.func 72) [] [.ptr 2 0, .ptr 3 0, .ptr 4 0]), (5, .sc (.slice none 0 0))], [(1, ⟨82, false, [.rd β1 a0_b0.length (a0_b0.flatMap enc8), .sc (.int .i64 a0_b1), .sc (.bool a0_b2)]⟩), (2, ⟨39, false, [.ptr 1 0]⟩), (3, ⟨3, false, [.sc (.int .i64 a1_1_b0)]⟩), (4, ⟨87, false, [.clo (.func 48) [] [.ptr 5 0]]⟩), (5, ⟨39, false, [.ptr 1 0]⟩)]⟩) (VC.sub (.c rfl <| .c rfl <| .c rfl <| .n _) (.c rfl <| .c rfl <| .c rfl <| .c rfl <| .c rfl <| .n _)) ?_
  refine AWP.seq ?_
  refine AWP.seq ?_
  refine AWP.region (.cons (.move (lt1 rfl) (.tmp rfl)) <| .cons (.ptrNil0 (lt1 rfl) (.tmp rfl) Try.underlying39) <| .cons (.move (lt1 rfl) (.tmp rfl)) <| .guardT (j := 2) (dj := 10) rfl (lt1 rfl) rfl rfl (.move (lt1 rfl) (.tmp rfl)) <| .guardT (j := 2) (dj := 10) rfl (lt1 rfl) rfl rfl (.nilCheck (lt1 rfl) (.tmp rfl) trivial) <| .guardT (j := 2) (dj := 10) rfl (lt1 rfl) rfl rfl (.fieldP (lt1 rfl) (.tmp rfl) fld82_2) <| .guardT (j := 2) (dj := 10) rfl (lt1 rfl) rfl rfl (.loadP (lt1 rfl) (.tmp rfl) one4 rfl rfl rfl) <| .cons (.pickF (lt1 rfl) (.tmp rfl) rfl (.tmp rfl)) <| ARun.nil _ _ _) ?_
  refine AWP.vc (s' := ⟨[(0, .ptr 1 0), (1, .clo (.func 72) [] [.ptr 2 0, .ptr 3 0, .ptr 4 0]), (5, .sc (.slice none 0 0)), (15, .sc (.bool a0_b2))], [(1, ⟨82, false, [.rd β1 a0_b0.length (a0_b0.flatMap enc8), .sc (.int .i64 a0_b1), .sc (.bool a0_b2)]⟩), (2, ⟨39, false, [.ptr 1 0]⟩), (3, ⟨3, false, [.sc (.int .i64 a1_1_b0)]⟩), (4, ⟨87, false, [.clo (.func 48) [] [.ptr 5 0]]⟩), (5, ⟨39, false, [.ptr 1 0]⟩)]⟩) (VC.sub (.c rfl <| .c rfl <| .c rfl <| .c rfl <| .n _) (.c rfl <| .c rfl <| .c rfl <| .c rfl <| .c rfl <| .n _)) ?_
  refine AWP.cond (.tmp rfl) (fun hc => ?_) (fun hc => ?_)
  · have h := iteT hc h
    refine AWP.seq ?_
    refine AWP.region (.cons (.move (lt1 rfl) (.tmp rfl)) <| .cons (.assign (lt1 rfl) (.tmp rfl)) <| ARun.nil _ _ _) ?_
    refine AWP.ret ?_
    obtain rfl := Option.some.inj h
    refine retJ (Res.vc (s' := ⟨[(4, .rd false ([] : List (List R59)).length (([] : List (List R59)).flatMap encL59))], [(1, ⟨82, false, [.rd β1 a0_b0.length (a0_b0.flatMap enc8), .sc (.int .i64 a0_b1), .sc (.bool a0_b2)]⟩), (2, ⟨39, false, [.ptr 1 0]⟩), (3, ⟨3, false, [.sc (.int .i64 a1_1_b0)]⟩), (4, ⟨87, false, [.clo (.func 48) [] [.ptr 5 0]]⟩), (5, ⟨39, false, [.ptr 1 0]⟩)]⟩) (VC.trans (VC.nilRd (d := 4) false rfl) (VC.sub (.c rfl <| .n _) (.c rfl <| .c rfl <| .c rfl <| .c rfl <| .c rfl <| .n _))) ?_)
    refine Res.sub (H := [(1, ⟨82, false, [.rd β1 a0_b0.length (a0_b0.flatMap enc8), .sc (.int .i64 a0_b1), .sc (.bool a0_b2)]⟩), (2, ⟨39, false, [.ptr 1 0]⟩), (3, ⟨3, false, [.sc (.int .i64 a1_1_b0)]⟩), (4, ⟨87, false, [.clo (.func 48) [] [.ptr 5 0]]⟩), (5, ⟨39, false, [.ptr 1 0]⟩)]) (.c rfl <| .c rfl <| .c rfl <| .c rfl <| .c rfl <| .n _) ?_
    exact Res.of rfl (.cons (.tmp rfl) (.nil)) rfl rfl
  · have h := iteF hc h
    refine AWP.skip ?_
    refine AWP.seq ?_
    refine AWP.region (.cons (.move (lt1 rfl) (.tmp rfl)) <| .cons (.nilCheck (lt1 rfl) (.tmp rfl) trivial) <| .cons (.fieldP (lt1 rfl) (.tmp rfl) fld82_1) <| .cons (.loadP (lt1 rfl) (.tmp rfl) one3 rfl rfl rfl) <| .cons (.assign (lt1 rfl) (.tmp rfl)) <| ARun.nil _ _ _) ?_
    refine AWP.vc (s' := ⟨[(0, .ptr 1 0), (1, .clo (.func 72) [] [.ptr 2 0, .ptr 3 0, .ptr 4 0]), (5, .sc (.slice none 0 0)), (6, .sc (.int .i64 a0_b1))], [(1, ⟨82, false, [.rd β1 a0_b0.length (a0_b0.flatMap enc8), .sc (.int .i64 a0_b1), .sc (.bool a0_b2)]⟩), (2, ⟨39, false, [.ptr 1 0]⟩), (3, ⟨3, false, [.sc (.int .i64 a1_1_b0)]⟩), (4, ⟨87, false, [.clo (.func 48) [] [.ptr 5 0]]⟩), (5, ⟨39, false, [.ptr 1 0]⟩)]⟩) (VC.sub (.c rfl <| .c rfl <| .c rfl <| .c rfl <| .n _) (.c rfl <| .c rfl <| .c rfl <| .c rfl <| .c rfl <| .n _)) ?_
    refine AWP.seq ?_
    obtain ⟨y_1, hy_1, h⟩ := bindS h
    refine AWP.region (.cons (.move (lt1 rfl) (.tmp rfl)) <| .cons (.callV (us' := []) (avs := []) (cs' := [.ptr 1 0, .ptr 3 0, .ptr 4 0]) (σ := sgT [(1, 2), (2, 1), (3, 3), (4, 4), (5, 5)]) (bw := false) (lt1 rfl) (.tmp rfl) (c72 (β1 := β1) n a0_b0 a0_b1 a0_b2 a1_1_b0 hy_1) (.nil) (.nil) (.cons (.ren rfl) (.cons (.ren rfl) (.cons (.ren rfl) (.nil)))) (CallOk.mk' (.c rfl (.c rfl (.c rfl (.c rfl (.c rfl (.n)))))) rfl) (fun _ h => by cases h)) <| .cons (.assign (lt1 rfl) (.tmp rfl)) <| ARun.nil _ _ _) ?_
    refine AWP.vc (s' := ⟨[(0, .ptr 1 0), (5, .sc (.slice none 0 0)), (6, .sc (.int .i64 a0_b1)), (7, .rd false y_1.1.length (y_1.1.flatMap encL59))], [(2, ⟨39, false, [.ptr 1 0]⟩), (1, ⟨82, false, [.rd β1 y_1.2.1.length (y_1.2.1.flatMap enc8), .sc (.int .i64 y_1.2.2.1), .sc (.bool y_1.2.2.2)]⟩), (3, ⟨3, false, [.sc (.int .i64 a1_1_b0)]⟩), (4, ⟨87, false, [.clo (.func 48) [] [.ptr 5 0]]⟩), (5, ⟨39, false, [.ptr 1 0]⟩)]⟩) (VC.sub (.c rfl <| .c rfl <| .c rfl <| .c rfl <| .n _) (.c rfl <| .c rfl <| .c rfl <| .c rfl <| .c rfl <| .n _)) ?_
    refine AWP.seq ?_
    refine AWP.seq ?_
    refine AWP.region (.cons (.move (lt1 rfl) (.tmp rfl)) <| .cons (.nilCheck (lt1 rfl) (.tmp rfl) trivial) <| .cons (.fieldP (lt1 rfl) (.tmp rfl) fld82_2) <| .cons (.loadP (lt1 rfl) (.tmp rfl) one4 rfl rfl rfl) <| ARun.nil _ _ _) ?_
    refine AWP.vc (s' := ⟨[(0, .ptr 1 0), (5, .sc (.slice none 0 0)), (6, .sc (.int .i64 a0_b1)), (7, .rd false y_1.1.length (y_1.1.flatMap encL59)), (26, .sc (.bool y_1.2.2.2))], [(2, ⟨39, false, [.ptr 1 0]⟩), (1, ⟨82, false, [.rd β1 y_1.2.1.length (y_1.2.1.flatMap enc8), .sc (.int .i64 y_1.2.2.1), .sc (.bool y_1.2.2.2)]⟩), (3, ⟨3, false, [.sc (.int .i64 a1_1_b0)]⟩), (4, ⟨87, false, [.clo (.func 48) [] [.ptr 5 0]]⟩), (5, ⟨39, false, [.ptr 1 0]⟩)]⟩) (VC.sub (.c rfl <| .c rfl <| .c rfl <| .c rfl <| .c rfl <| .n _) (.c rfl <| .c rfl <| .c rfl <| .c rfl <| .c rfl <| .n _)) ?_
    refine AWP.cond (.tmp rfl) (fun hc => ?_) (fun hc => ?_)
    · have h := iteT hc h
      refine AWP.seq ?_
      refine AWP.region (.cons (.move (lt1 rfl) (.tmp rfl)) <| .cons (.move (lt1 rfl) (.tmp rfl)) <| .cons (.nilCheck (lt1 rfl) (.tmp rfl) trivial) <| .cons (.fieldP (lt1 rfl) (.tmp rfl) fld82_1) <| .cons (.storeP (.tmp rfl) (.tmp rfl) sz3 rfl (lt1 rfl) rfl (by intro h; cases h) rfl) <| ARun.nil _ _ _) ?_
      refine AWP.vc (s' := ⟨[(5, .sc (.slice none 0 0))], [(2, ⟨39, false, [.ptr 1 0]⟩), (1, ⟨82, false, [.rd β1 y_1.2.1.length (y_1.2.1.flatMap enc8), .sc (.int .i64 a0_b1), .sc (.bool y_1.2.2.2)]⟩), (3, ⟨3, false, [.sc (.int .i64 a1_1_b0)]⟩), (4, ⟨87, false, [.clo (.func 48) [] [.ptr 5 0]]⟩), (5, ⟨39, false, [.ptr 1 0]⟩)]⟩) (VC.sub (.c rfl <| .n _) (.c rfl <| .c rfl <| .c rfl <| .c rfl <| .c rfl <| .n _)) ?_
      refine AWP.seq ?_
      refine AWP.region (.cons (.move (lt1 rfl) (.tmp rfl)) <| .cons (.assign (lt1 rfl) (.tmp rfl)) <| ARun.nil _ _ _) ?_
      refine AWP.ret ?_
      obtain rfl := Option.some.inj h
      refine retJ (Res.vc (s' := ⟨[(4, .rd false ([] : List (List R59)).length (([] : List (List R59)).flatMap encL59))], [(1, ⟨82, false, [.rd β1 y_1.2.1.length (y_1.2.1.flatMap enc8), .sc (.int .i64 a0_b1), .sc (.bool y_1.2.2.2)]⟩), (2, ⟨39, false, [.ptr 1 0]⟩), (3, ⟨3, false, [.sc (.int .i64 a1_1_b0)]⟩), (4, ⟨87, false, [.clo (.func 48) [] [.ptr 5 0]]⟩), (5, ⟨39, false, [.ptr 1 0]⟩)]⟩) (VC.trans (VC.nilRd (d := 4) false rfl) (VC.sub (.c rfl <| .n _) (.c rfl <| .c rfl <| .c rfl <| .c rfl <| .c rfl <| .n _))) ?_)
      refine Res.sub (H := [(1, ⟨82, false, [.rd β1 y_1.2.1.length (y_1.2.1.flatMap enc8), .sc (.int .i64 a0_b1), .sc (.bool y_1.2.2.2)]⟩), (2, ⟨39, false, [.ptr 1 0]⟩), (3, ⟨3, false, [.sc (.int .i64 a1_1_b0)]⟩), (4, ⟨87, false, [.clo (.func 48) [] [.ptr 5 0]]⟩), (5, ⟨39, false, [.ptr 1 0]⟩)]) (.c rfl <| .c rfl <| .c rfl <| .c rfl <| .c rfl <| .n _) ?_
      exact Res.of rfl (.cons (.tmp rfl) (.nil)) rfl rfl
    · have h := iteF hc h
      refine AWP.skip ?_
      refine AWP.seq ?_
      refine AWP.region (.cons (.move (lt1 rfl) (.tmp rfl)) <| .cons (.assign (lt1 rfl) (.tmp rfl)) <| ARun.nil _ _ _) ?_
      refine AWP.ret ?_
      obtain rfl := Option.some.inj h
      refine retJ (Res.vc (s' := ⟨[(4, .rd false y_1.1.length (y_1.1.flatMap encL59))], [(1, ⟨82, false, [.rd β1 y_1.2.1.length (y_1.2.1.flatMap enc8), .sc (.int .i64 y_1.2.2.1), .sc (.bool y_1.2.2.2)]⟩), (2, ⟨39, false, [.ptr 1 0]⟩), (3, ⟨3, false, [.sc (.int .i64 a1_1_b0)]⟩), (4, ⟨87, false, [.clo (.func 48) [] [.ptr 5 0]]⟩), (5, ⟨39, false, [.ptr 1 0]⟩)]⟩) (VC.sub (.c rfl <| .n _) (.c rfl <| .c rfl <| .c rfl <| .c rfl <| .c rfl <| .n _)) ?_)
      refine Res.sub (H := [(1, ⟨82, false, [.rd β1 y_1.2.1.length (y_1.2.1.flatMap enc8), .sc (.int .i64 y_1.2.2.1), .sc (.bool y_1.2.2.2)]⟩), (2, ⟨39, false, [.ptr 1 0]⟩), (3, ⟨3, false, [.sc (.int .i64 a1_1_b0)]⟩), (4, ⟨87, false, [.clo (.func 48) [] [.ptr 5 0]]⟩), (5, ⟨39, false, [.ptr 1 0]⟩)]) (.c rfl <| .c rfl <| .c rfl <| .c rfl <| .c rfl <| .n _) ?_
      exact Res.of rfl (.cons (.tmp rfl) (.nil)) rfl rfl
theorem c49 {β1 : Bool} (n : Nat) (a0_b0 : (List UInt8)) (a0_b1 : Int) (a0_b2 : Bool) (a1 : Int) {r : ((List (List R59)) × (List UInt8) × Int × Bool)} (h : m49 n a0_b0 a0_b1 a0_b2 a1 = some r) : Spec Try.prog 49 [1, 2] [.ptr 1 0, .sc (.int .i64 a1), .clo (.func 48) [] [.ptr 2 0]] [(1, ⟨82, false, [.rd β1 a0_b0.length (a0_b0.flatMap enc8), .sc (.int .i64 a0_b1), .sc (.bool a0_b2)]⟩), (2, ⟨39, false, [.ptr 1 0]⟩)] (.rd false r.1.length (r.1.flatMap encL59)) [(1, ⟨82, false, [.rd β1 r.2.1.length (r.2.1.flatMap enc8), .sc (.int .i64 r.2.2.1), .sc (.bool r.2.2.2)]⟩), (2, ⟨39, false, [.ptr 1 0]⟩)] := by
  refine Spec.of (fn := Try.f49) Try.func49 Try.ntmps49 rfl rfl (le1 rfl) (fun w0 Zs Zb T0 ι0 => ?_)
  unfold m49 at h
  refine AWP.seq ?_
  refine AWP.region (.cons (.box (t := 3) (n := 1) (lt1 rfl) (nm rfl) (.tmp rfl) (by first | exact ⟨rfl, rfl⟩ | rfl) rfl) <| .cons (.box (t := 4) (n := 1) (lt1 rfl) (nm rfl) (.tmp rfl) (by first | exact ⟨rfl, rfl⟩ | rfl) rfl) <| .cons (.box (t := 5) (n := 1) (lt1 rfl) (nm rfl) (.tmp rfl) (by first | exact ⟨rfl, rfl⟩ | rfl) rfl) <| .cons (.assign (lt1 rfl) (.const _ _ _)) <| ARun.nil _ _ _) ?_
  refine AWP.vc (s' := ⟨[(3, .ptr 3 0), (4, .ptr 4 0), (5, .ptr 5 0)], [(5, ⟨87, false, [.clo (.func 48) [] [.ptr 2 0]]⟩), (4, ⟨3, false, [.sc (.int .i64 a1)]⟩), (3, ⟨39, false, [.ptr 1 0]⟩), (1, ⟨82, false, [.rd β1 a0_b0.length (a0_b0.flatMap enc8), .sc (.int .i64 a0_b1), .sc (.bool a0_b2)]⟩), (2, ⟨39, false, [.ptr 1 0]⟩)]⟩) (VC.sub (.c rfl <| .c rfl <| .c rfl <| .n _) (.c rfl <| .c rfl <| .c rfl <| .c rfl <| .c rfl <| .n _)) ?_
  refine AWP.seq ?_
  obtain ⟨y_1, hy_1, h⟩ := bindS h
  refine AWP.region (.cons (.loadP (lt1 rfl) (.tmp rfl) one39 rfl rfl rfl) <| .cons (.makeFunc (lt1 rfl) (.nil) (.cons (.tmp rfl) (.cons (.tmp rfl) (.cons (.tmp rfl) (.nil))))) <| .cons (.call (σ := sgT [(1, 1), (2, 3), (3, 4), (4, 5), (5, 2)]) (bw := false) (lt1 rfl) (c71 (β1 := β1) n a0_b0 a0_b1 a0_b2 a1 hy_1) (.cons (.tmp rfl) (.ren rfl) (.cons (.tmp rfl) (.ren rfl) (.nil))) (CallOk.mk' (.c rfl (.c rfl (.c rfl (.c rfl (.c rfl (.n)))))) rfl)) <| .cons (.assign (lt1 rfl) (.tmp rfl)) <| ARun.nil _ _ _) ?_
  refine AWP.ret ?_
  obtain rfl := Option.some.inj h
  refine retJ (Res.vc (s' := ⟨[(6, .rd false y_1.1.length (y_1.1.flatMap encL59))], [(1, ⟨82, false, [.rd β1 y_1.2.1.length (y_1.2.1.flatMap enc8), .sc (.int .i64 y_1.2.2.1), .sc (.bool y_1.2.2.2)]⟩), (2, ⟨39, false, [.ptr 1 0]⟩)]⟩) (VC.sub (.c rfl <| .n _) (.c rfl <| .c rfl <| .n _)) ?_)
  refine Res.sub (H := [(1, ⟨82, false, [.rd β1 y_1.2.1.length (y_1.2.1.flatMap enc8), .sc (.int .i64 y_1.2.2.1), .sc (.bool y_1.2.2.2)]⟩), (2, ⟨39, false, [.ptr 1 0]⟩)]) (.c rfl <| .c rfl <| .n _) ?_
  exact Res.of rfl (.cons (.tmp rfl) (.nil)) rfl rfl
theorem c47 {β1 : Bool} (n : Nat) (a0_b0_b0 : (List UInt8)) (a0_b0_b1 : Int) (a0_b0_b2 : Bool) {r : (R27 × (List UInt8) × Int × Bool)} (h : m47 n a0_b0_b0 a0_b0_b1 a0_b0_b2 = some r) : Spec Try.prog 47 [1, 2] [.ptr 1 0] [(1, ⟨39, false, [.ptr 2 0]⟩), (2, ⟨82, false, [.rd β1 a0_b0_b0.length (a0_b0_b0.flatMap enc8), .sc (.int .i64 a0_b0_b1), .sc (.bool a0_b0_b2)]⟩)] (.agg [.rd false r.1.Outer.length (r.1.Outer.flatMap encR59), .rd false r.1.Holes.length (r.1.Holes.flatMap encL59)]) [(1, ⟨39, false, [.ptr 2 0]⟩), (2, ⟨82, false, [.rd β1 r.2.1.length (r.2.1.flatMap enc8), .sc (.int .i64 r.2.2.1), .sc (.bool r.2.2.2)]⟩)] := by
  refine Spec.of (fn := Try.f47) Try.func47 Try.ntmps47 rfl rfl (le1 rfl) (fun w0 Zs Zb T0 ι0 => ?_)
  unfold m47 at h
  refine AWP.seq ?_
  refine AWP.region (.cons (.alloc (t := 3) (k := ⟨28, false, [.sc (.slice none 0 0), .sc (.slice none 0 0)]⟩) (lt1 rfl) (nm rfl) zero28 rfl rfl) <| ARun.nil _ _ _) ?_
  refine AWP.vc (s' := ⟨[(0, .ptr 1 0), (1, .ptr 3 0)], [(3, ⟨28, false, [.sc (.slice none 0 0), .sc (.slice none 0 0)]⟩), (1, ⟨39, false, [.ptr 2 0]⟩), (2, ⟨82, false, [.rd β1 a0_b0_b0.length (a0_b0_b0.flatMap enc8), .sc (.int .i64 a0_b0_b1), .sc (.bool a0_b0_b2)]⟩)]⟩) (VC.sub (.c rfl <| .c rfl <| .n _) (.c rfl <| .c rfl <| .c rfl <| .n _)) ?_
  refine AWP.seq ?_
  refine AWP.region (.cons (.makeFunc (lt1 rfl) (.nil) (.cons (.tmp rfl) (.nil))) <| .cons (.assign (lt1 rfl) (.tmp rfl)) <| ARun.nil _ _ _) ?_
  refine AWP.vc (s' := ⟨[(0, .ptr 1 0), (1, .ptr 3 0), (2, .clo (.func 48) [] [.ptr 1 0])], [(3, ⟨28, false, [.sc (.slice none 0 0), .sc (.slice none 0 0)]⟩), (1, ⟨39, false, [.ptr 2 0]⟩), (2, ⟨82, false, [.rd β1 a0_b0_b0.length (a0_b0_b0.flatMap enc8), .sc (.int .i64 a0_b0_b1), .sc (.bool a0_b0_b2)]⟩)]⟩) (VC.sub (.c rfl <| .c rfl <| .c rfl <| .n _) (.c rfl <| .c rfl <| .c rfl <| .n _)) ?_
  refine AWP.seq ?_
  obtain ⟨y_1, hy_1, h⟩ := bindS h
  refine AWP.region (.cons (.move (lt1 rfl) (.tmp rfl)) <| .cons (.callV (us' := []) (avs := []) (cs' := [.ptr 1 0]) (σ := sgT [(1, 1), (2, 2)]) (bw := false) (lt1 rfl) (.tmp rfl) (c48 (β1 := β1) n a0_b0_b0 a0_b0_b1 a0_b0_b2 hy_1) (.nil) (.nil) (.cons (.ren rfl) (.nil)) (CallOk.mk' (.c rfl (.c rfl (.n))) rfl) (fun _ h => by cases h)) <| .cons (.buildO (offs := [(0, 1), (1, 1)]) (lt1 rfl) (.cons (.tmp rfl) (by first | exact ⟨rfl, rfl⟩ | rfl) (.nil)) zero28 offs28 rfl) <| .cons (.alloc (t := 4) (k := ⟨28, false, [.sc (.slice none 0 0), .sc (.slice none 0 0)]⟩) (lt1 rfl) (nm rfl) zero28 rfl rfl) <| .cons (.storePA (.tmp rfl) (.tmp rfl) sz28 rfl rfl (le1 rfl) (one_lit rfl) (by intro h; cases h) rfl) <| ARun.nil _ _ _) ?_
  refine AWP.vc (s' := ⟨[(0, .ptr 1 0), (1, .ptr 3 0), (2, .clo (.func 48) [] [.ptr 1 0]), (3, .ptr 4 0)], [(4, ⟨28, false, [.rd false y_1.1.length (y_1.1.flatMap encR59), .sc (.slice none 0 0)]⟩), (1, ⟨39, false, [.ptr 2 0]⟩), (2, ⟨82, false, [.rd β1 y_1.2.1.length (y_1.2.1.flatMap enc8), .sc (.int .i64 y_1.2.2.1), .sc (.bool y_1.2.2.2)]⟩), (3, ⟨28, false, [.sc (.slice none 0 0), .sc (.slice none 0 0)]⟩)]⟩) (VC.sub (.c rfl <| .c rfl <| .c rfl <| .c rfl <| .n _) (.c rfl <| .c rfl <| .c rfl <| .c rfl <| .n _)) ?_
  refine AWP.seq ?_
  obtain ⟨y_2, hy_2, h⟩ := bindS h
  refine AWP.region (.cons (.loadP (lt1 rfl) (.tmp rfl) one39 rfl rfl rfl) <| .cons (.move (lt1 rfl) (.tmp rfl)) <| .cons (.call (σ := sgT [(1, 2), (2, 1)]) (bw := false) (lt1 rfl) (c49 (β1 := β1) n y_1.2.1 y_1.2.2.1 y_1.2.2.2 (6 : Int) hy_2) (.cons (.tmp rfl) (.ren rfl) (.cons (.const _ _ _) (.ren rfl) (.cons (.tmp rfl) (.ren rfl) (.nil)))) (CallOk.mk' (.c rfl (.c rfl (.n))) rfl)) <| .cons (.fieldP (lt1 rfl) (.tmp rfl) fld28_1) <| .cons (.storeP (.tmp rfl) (.tmp rfl) sz26 rfl (lt1 rfl) rfl (by intro h; cases h) rfl) <| ARun.nil _ _ _) ?_
  refine AWP.vc (s' := ⟨[(1, .ptr 3 0), (3, .ptr 4 0)], [(2, ⟨82, false, [.rd β1 y_2.2.1.length (y_2.2.1.flatMap enc8), .sc (.int .i64 y_2.2.2.1), .sc (.bool y_2.2.2.2)]⟩), (1, ⟨39, false, [.ptr 2 0]⟩), (4, ⟨28, false, [.rd false y_1.1.length (y_1.1.flatMap encR59), .rd false y_2.1.length (y_2.1.flatMap encL59)]⟩), (3, ⟨28, false, [.sc (.slice none 0 0), .sc (.slice none 0 0)]⟩)]⟩) (VC.sub (.c rfl <| .c rfl <| .n _) (.c rfl <| .c rfl <| .c rfl <| .c rfl <| .n _)) ?_
  refine AWP.seq ?_
  refine AWP.region (.cons (.loadPA (lt1 rfl) (.tmp rfl) agg28 rfl rfl rfl rfl) <| .cons (.storePA (.tmp rfl) (.tmp rfl) sz28 rfl rfl (le1 rfl) (one_lit rfl) (by intro h; cases h) rfl) <| ARun.nil _ _ _) ?_
  refine AWP.ret ?_
  obtain rfl := Option.some.inj h
  refine retJ (Res.vc (s' := ⟨[(1, .ptr 3 0)], [(3, ⟨28, false, [.rd false y_1.1.length (y_1.1.flatMap encR59), .rd false y_2.1.length (y_2.1.flatMap encL59)]⟩), (1, ⟨39, false, [.ptr 2 0]⟩), (2, ⟨82, false, [.rd β1 y_2.2.1.length (y_2.2.1.flatMap enc8), .sc (.int .i64 y_2.2.2.1), .sc (.bool y_2.2.2.2)]⟩)]⟩) (VC.sub (.c rfl <| .n _) (.c rfl <| .c rfl <| .c rfl <| .n _)) ?_)
  refine Res.sub (H := [(3, ⟨28, false, [.rd false y_1.1.length (y_1.1.flatMap encR59), .rd false y_2.1.length (y_2.1.flatMap encL59)]⟩), (1, ⟨39, false, [.ptr 2 0]⟩), (2, ⟨82, false, [.rd β1 y_2.2.1.length (y_2.2.1.flatMap enc8), .sc (.int .i64 y_2.2.2.1), .sc (.bool y_2.2.2.2)]⟩)]) (.c rfl <| .c rfl <| .n _) ?_
  exact Res.of rfl (.cons (.cell rfl agg28 rfl rfl rfl rfl) (.nil)) rfl rfl
theorem c46 {β1 : Bool} (n : Nat) (a0_b0 : (List UInt8)) (a0_b1 : Int) (a0_b2 : Bool) {r : (R27 × (List UInt8) × Int × Bool)} (h : m46 n a0_b0 a0_b1 a0_b2 = some r) : Spec Try.prog 46 [1, 2] [.ptr 1 0, .clo (.func 47) [] [.ptr 2 0]] [(1, ⟨82, false, [.rd β1 a0_b0.length (a0_b0.flatMap enc8), .sc (.int .i64 a0_b1), .sc (.bool a0_b2)]⟩), (2, ⟨39, false, [.ptr 1 0]⟩)] (.agg [.rd false r.1.Outer.length (r.1.Outer.flatMap encR59), .rd false r.1.Holes.length (r.1.Holes.flatMap encL59)]) [(1, ⟨82, false, [.rd β1 r.2.1.length (r.2.1.flatMap enc8), .sc (.int .i64 r.2.2.1), .sc (.bool r.2.2.2)]⟩), (2, ⟨39, false, [.ptr 1 0]⟩)] := by
  refine Spec.of (fn := Try.f46) Try.func46 Try.ntmps46 rfl rfl (le1 rfl) (fun w0 Zs Zb T0 ι0 => ?_)
  unfold m46 at h
  refine AWP.seq ?_
  refine AWP.region (.cons (.alloc (t := 3) (k := ⟨28, false, [.sc (.slice none 0 0), .sc (.slice none 0 0)]⟩) (lt1 rfl) (nm rfl) zero28 rfl rfl) <| ARun.nil _ _ _) ?_
  refine AWP.vc (s' := ⟨[(0, .ptr 1 0), (1, .clo (.func 47) [] [.ptr 2 0]), (4, .ptr 3 0)], [(3, ⟨28, false, [.sc (.slice none 0 0), .sc (.slice none 0 0)]⟩), (1, ⟨82, false, [.rd β1 a0_b0.length (a0_b0.flatMap enc8), .sc (.int .i64 a0_b1), .sc (.bool a0_b2)]⟩), (2, ⟨39, false, [.ptr 1 0]⟩)]⟩) (VC.sub (.c rfl <| .c rfl <| .c rfl <| .n _) (.c rfl <| .c rfl <| .c rfl <| .n _)) ?_
  refine AWP.seq ?_
  refine AWP.region (.cons (.alloc (t := 4) (k := ⟨28, false, [.sc (.slice none 0 0), .sc (.slice none 0 0)]⟩) (lt1 rfl) (nm rfl) zero28 rfl rfl) <| ARun.nil _ _ _) ?_
  refine AWP.vc (s' := ⟨[(0, .ptr 1 0), (1, .clo (.func 47) [] [.ptr 2 0]), (4, .ptr 3 0), (5, .ptr 4 0)], [(4, ⟨28, false, [.sc (.slice none 0 0), .sc (.slice none 0 0)]⟩), (3, ⟨28, false, [.sc (.slice none 0 0), .sc (.slice none 0 0)]⟩), (1, ⟨82, false, [.rd β1 a0_b0.length (a0_b0.flatMap enc8), .sc (.int .i64 a0_b1), .sc (.bool a0_b2)]⟩), (2, ⟨39, false, [.ptr 1 0]⟩)]⟩) (VC.sub (.c rfl <| .c rfl <| .c rfl <| .c rfl <| .n _) (.c rfl <| .c rfl <| .c rfl <| .c rfl <| .n _)) ?_
  refine AWP.seq ?_
  refine AWP.seq ?_
  refine AWP.region (.cons (.move (lt1 rfl) (.tmp rfl)) <| .cons (.ptrNil0 (lt1 rfl) (.tmp rfl) Try.underlying39) <| .cons (.move (lt1 rfl) (.tmp rfl)) <| .guardT (j := 2) (dj := 10) rfl (lt1 rfl) rfl rfl (.move (lt1 rfl) (.tmp rfl)) <| .guardT (j := 2) (dj := 10) rfl (lt1 rfl) rfl rfl (.nilCheck (lt1 rfl) (.tmp rfl) trivial) <| .guardT (j := 2) (dj := 10) rfl (lt1 rfl) rfl rfl (.fieldP (lt1 rfl) (.tmp rfl) fld82_2) <| .guardT (j := 2) (dj := 10) rfl (lt1 rfl) rfl rfl (.loadP (lt1 rfl) (.tmp rfl) one4 rfl rfl rfl) <| .cons (.pickF (lt1 rfl) (.tmp rfl) rfl (.tmp rfl)) <| ARun.nil _ _ _) ?_
  refine AWP.vc (s' := ⟨[(0, .ptr 1 0), (1, .clo (.func 47) [] [.ptr 2 0]), (4, .ptr 3 0), (5, .ptr 4 0), (15, .sc (.bool a0_b2))], [(4, ⟨28, false, [.sc (.slice none 0 0), .sc (.slice none 0 0)]⟩), (3, ⟨28, false, [.sc (.slice none 0 0), .sc (.slice none 0 0)]⟩), (1, ⟨82, false, [.rd β1 a0_b0.length (a0_b0.flatMap enc8), .sc (.int .i64 a0_b1), .sc (.bool a0_b2)]⟩), (2, ⟨39, false, [.ptr 1 0]⟩)]⟩) (VC.sub (.c rfl <| .c rfl <| .c rfl <| .c rfl <| .c rfl <| .n _) (.c rfl <| .c rfl <| .c rfl <| .c rfl <| .n _)) ?_
  refine AWP.cond (.tmp rfl) (fun hc => ?_) (fun hc => ?_)
  · have h := iteT hc h
    refine AWP.seq ?_
    refine AWP.region (.cons (.loadPA (lt1 rfl) (.tmp rfl) agg28 rfl rfl rfl rfl) <| .cons (.storePA (.tmp rfl) (.tmp rfl) sz28 rfl rfl (le1 rfl) (one_lit rfl) (by intro h; cases h) rfl) <| ARun.nil _ _ _) ?_
    refine AWP.ret ?_
    obtain rfl := Option.some.inj h
    refine retJ (Res.vc (s' := ⟨[(4, .ptr 3 0)], [(3, ⟨28, false, [.rd false ([] : List R59).length (([] : List R59).flatMap encR59), .rd false ([] : List (List R59)).length (([] : List (List R59)).flatMap encL59)]⟩), (1, ⟨82, false, [.rd β1 a0_b0.length (a0_b0.flatMap enc8), .sc (.int .i64 a0_b1), .sc (.bool a0_b2)]⟩), (2, ⟨39, false, [.ptr 1 0]⟩)]⟩) (VC.trans (VC.cell (t := 3) (i := 0) (v' := .rd false ([] : List R59).length (([] : List R59).flatMap encR59)) rfl rfl rfl (fun _ _ _ _ h => nil_rd h)) (VC.trans (VC.cell (t := 3) (i := 1) (v' := .rd false ([] : List (List R59)).length (([] : List (List R59)).flatMap encL59)) rfl rfl rfl (fun _ _ _ _ h => nil_rd h)) (VC.sub (.c rfl <| .n _) (.c rfl <| .c rfl <| .c rfl <| .n _)))) ?_)
    refine Res.sub (H := [(3, ⟨28, false, [.rd false ([] : List R59).length (([] : List R59).flatMap encR59), .rd false ([] : List (List R59)).length (([] : List (List R59)).flatMap encL59)]⟩), (1, ⟨82, false, [.rd β1 a0_b0.length (a0_b0.flatMap enc8), .sc (.int .i64 a0_b1), .sc (.bool a0_b2)]⟩), (2, ⟨39, false, [.ptr 1 0]⟩)]) (.c rfl <| .c rfl <| .n _) ?_
    exact Res.of rfl (.cons (.cell rfl agg28 rfl rfl rfl rfl) (.nil)) rfl rfl
  · have h := iteF hc h
    refine AWP.skip ?_
    refine AWP.seq ?_
    refine AWP.region (.cons (.move (lt1 rfl) (.tmp rfl)) <| .cons (.nilCheck (lt1 rfl) (.tmp rfl) trivial) <| .cons (.fieldP (lt1 rfl) (.tmp rfl) fld82_1) <| .cons (.loadP (lt1 rfl) (.tmp rfl) one3 rfl rfl rfl) <| .cons (.assign (lt1 rfl) (.tmp rfl)) <| ARun.nil _ _ _) ?_
    refine AWP.vc (s' := ⟨[(0, .ptr 1 0), (1, .clo (.func 47) [] [.ptr 2 0]), (4, .ptr 3 0), (5, .ptr 4 0), (6, .sc (.int .i64 a0_b1))], [(4, ⟨28, false, [.sc (.slice none 0 0), .sc (.slice none 0 0)]⟩), (3, ⟨28, false, [.sc (.slice none 0 0), .sc (.slice none 0 0)]⟩), (1, ⟨82, false, [.rd β1 a0_b0.length (a0_b0.flatMap enc8), .sc (.int .i64 a0_b1), .sc (.bool a0_b2)]⟩), (2, ⟨39, false, [.ptr 1 0]⟩)]⟩) (VC.sub (.c rfl <| .c rfl <| .c rfl <| .c rfl <| .c rfl <| .n _) (.c rfl <| .c rfl <| .c rfl <| .c rfl <| .n _)) ?_
    refine AWP.seq ?_
    obtain ⟨y_1, hy_1, h⟩ := bindS h
    refine AWP.region (.cons (.move (lt1 rfl) (.tmp rfl)) <| .cons (.callV (us' := []) (avs := []) (cs' := [.ptr 1 0]) (σ := sgT [(1, 2), (2, 1)]) (bw := false) (lt1 rfl) (.tmp rfl) (c47 (β1 := β1) n a0_b0 a0_b1 a0_b2 hy_1) (.nil) (.nil) (.cons (.ren rfl) (.nil)) (CallOk.mk' (.c rfl (.c rfl (.n))) rfl) (fun _ h => by cases h)) <| .cons (.alloc (t := 5) (k := ⟨28, false, [.sc (.slice none 0 0), .sc (.slice none 0 0)]⟩) (lt1 rfl) (nm rfl) zero28 rfl rfl) <| .cons (.storePA (.tmp rfl) (.tmp rfl) sz28 rfl rfl (le1 rfl) (one_lit rfl) (by intro h; cases h) rfl) <| ARun.nil _ _ _) ?_
    refine AWP.vc (s' := ⟨[(0, .ptr 1 0), (4, .ptr 3 0), (5, .ptr 4 0), (6, .sc (.int .i64 a0_b1)), (7, .ptr 5 0)], [(5, ⟨28, false, [.rd false y_1.1.Outer.length (y_1.1.Outer.flatMap encR59), .rd false y_1.1.Holes.length (y_1.1.Holes.flatMap encL59)]⟩), (2, ⟨39, false, [.ptr 1 0]⟩), (1, ⟨82, false, [.rd β1 y_1.2.1.length (y_1.2.1.flatMap enc8), .sc (.int .i64 y_1.2.2.1), .sc (.bool y_1.2.2.2)]⟩), (4, ⟨28, false, [.sc (.slice none 0 0), .sc (.slice none 0 0)]⟩), (3, ⟨28, false, [.sc (.slice none 0 0), .sc (.slice none 0 0)]⟩)]⟩) (VC.sub (.c rfl <| .c rfl <| .c rfl <| .c rfl <| .c rfl <| .n _) (.c rfl <| .c rfl <| .c rfl <| .c rfl <| .c rfl <| .n _)) ?_
    refine AWP.seq ?_
    refine AWP.seq ?_
    refine AWP.region (.cons (.move (lt1 rfl) (.tmp rfl)) <| .cons (.nilCheck (lt1 rfl) (.tmp rfl) trivial) <| .cons (.fieldP (lt1 rfl) (.tmp rfl) fld82_2) <| .cons (.loadP (lt1 rfl) (.tmp rfl) one4 rfl rfl rfl) <| ARun.nil _ _ _) ?_
    refine AWP.vc (s' := ⟨[(0, .ptr 1 0), (4, .ptr 3 0), (5, .ptr 4 0), (6, .sc (.int .i64 a0_b1)), (7, .ptr 5 0), (26, .sc (.bool y_1.2.2.2))], [(5, ⟨28, false, [.rd false y_1.1.Outer.length (y_1.1.Outer.flatMap encR59), .rd false y_1.1.Holes.length (y_1.1.Holes.flatMap encL59)]⟩), (2, ⟨39, false, [.ptr 1 0]⟩), (1, ⟨82, false, [.rd β1 y_1.2.1.length (y_1.2.1.flatMap enc8), .sc (.int .i64 y_1.2.2.1), .sc (.bool y_1.2.2.2)]⟩), (4, ⟨28, false, [.sc (.slice none 0 0), .sc (.slice none 0 0)]⟩), (3, ⟨28, false, [.sc (.slice none 0 0), .sc (.slice none 0 0)]⟩)]⟩) (VC.sub (.c rfl <| .c rfl <| .c rfl <| .c rfl <| .c rfl <| .c rfl <| .n _) (.c rfl <| .c rfl <| .c rfl <| .c rfl <| .c rfl <| .n _)) ?_
    refine AWP.cond (.tmp rfl) (fun hc => ?_) (fun hc => ?_)
    · have h := iteT hc h
      refine AWP.seq ?_
      refine AWP.region (.cons (.move (lt1 rfl) (.tmp rfl)) <| .cons (.move (lt1 rfl) (.tmp rfl)) <| .cons (.nilCheck (lt1 rfl) (.tmp rfl) trivial) <| .cons (.fieldP (lt1 rfl) (.tmp rfl) fld82_1) <| .cons (.storeP (.tmp rfl) (.tmp rfl) sz3 rfl (lt1 rfl) rfl (by intro h; cases h) rfl) <| ARun.nil _ _ _) ?_
      refine AWP.vc (s' := ⟨[(4, .ptr 3 0), (5, .ptr 4 0)], [(2, ⟨39, false, [.ptr 1 0]⟩), (1, ⟨82, false, [.rd β1 y_1.2.1.length (y_1.2.1.flatMap enc8), .sc (.int .i64 a0_b1), .sc (.bool y_1.2.2.2)]⟩), (4, ⟨28, false, [.sc (.slice none 0 0), .sc (.slice none 0 0)]⟩), (3, ⟨28, false, [.sc (.slice none 0 0), .sc (.slice none 0 0)]⟩)]⟩) (VC.sub (.c rfl <| .c rfl <| .n _) (.c rfl <| .c rfl <| .c rfl <| .c rfl <| .n _)) ?_
      refine AWP.seq ?_
      refine AWP.region (.cons (.loadPA (lt1 rfl) (.tmp rfl) agg28 rfl rfl rfl rfl) <| .cons (.storePA (.tmp rfl) (.tmp rfl) sz28 rfl rfl (le1 rfl) (one_lit rfl) (by intro h; cases h) rfl) <| ARun.nil _ _ _) ?_
      refine AWP.ret ?_
      obtain rfl := Option.some.inj h
      refine retJ (Res.vc (s' := ⟨[(4, .ptr 3 0)], [(3, ⟨28, false, [.rd false ([] : List R59).length (([] : List R59).flatMap encR59), .rd false ([] : List (List R59)).length (([] : List (List R59)).flatMap encL59)]⟩), (1, ⟨82, false, [.rd β1 y_1.2.1.length (y_1.2.1.flatMap enc8), .sc (.int .i64 a0_b1), .sc (.bool y_1.2.2.2)]⟩), (2, ⟨39, false, [.ptr 1 0]⟩)]⟩) (VC.trans (VC.cell (t := 3) (i := 0) (v' := .rd false ([] : List R59).length (([] : List R59).flatMap encR59)) rfl rfl rfl (fun _ _ _ _ h => nil_rd h)) (VC.trans (VC.cell (t := 3) (i := 1) (v' := .rd false ([] : List (List R59)).length (([] : List (List R59)).flatMap encL59)) rfl rfl rfl (fun _ _ _ _ h => nil_rd h)) (VC.sub (.c rfl <| .n _) (.c rfl <| .c rfl <| .c rfl <| .n _)))) ?_)
      refine Res.sub (H := [(3, ⟨28, false, [.rd false ([] : List R59).length (([] : List R59).flatMap encR59), .rd false ([] : List (List R59)).length (([] : List (List R59)).flatMap encL59)]⟩), (1, ⟨82, false, [.rd β1 y_1.2.1.length (y_1.2.1.flatMap enc8), .sc (.int .i64 a0_b1), .sc (.bool y_1.2.2.2)]⟩), (2, ⟨39, false, [.ptr 1 0]⟩)]) (.c rfl <| .c rfl <| .n _) ?_
      exact Res.of rfl (.cons (.cell rfl agg28 rfl rfl rfl rfl) (.nil)) rfl rfl
    · have h := iteF hc h
      refine AWP.skip ?_
      refine AWP.seq ?_
      refine AWP.region (.cons (.loadPA (lt1 rfl) (.tmp rfl) agg28 rfl rfl rfl rfl) <| .cons (.storePA (.tmp rfl) (.tmp rfl) sz28 rfl rfl (le1 rfl) (one_lit rfl) (by intro h; cases h) rfl) <| ARun.nil _ _ _) ?_
      refine AWP.ret ?_
      obtain rfl := Option.some.inj h
      refine retJ (Res.vc (s' := ⟨[(4, .ptr 3 0)], [(3, ⟨28, false, [.rd false y_1.1.Outer.length (y_1.1.Outer.flatMap encR59), .rd false y_1.1.Holes.length (y_1.1.Holes.flatMap encL59)]⟩), (1, ⟨82, false, [.rd β1 y_1.2.1.length (y_1.2.1.flatMap enc8), .sc (.int .i64 y_1.2.2.1), .sc (.bool y_1.2.2.2)]⟩), (2, ⟨39, false, [.ptr 1 0]⟩)]⟩) (VC.sub (.c rfl <| .n _) (.c rfl <| .c rfl <| .c rfl <| .n _)) ?_)
      refine Res.sub (H := [(3, ⟨28, false, [.rd false y_1.1.Outer.length (y_1.1.Outer.flatMap encR59), .rd false y_1.1.Holes.length (y_1.1.Holes.flatMap encL59)]⟩), (1, ⟨82, false, [.rd β1 y_1.2.1.length (y_1.2.1.flatMap enc8), .sc (.int .i64 y_1.2.2.1), .sc (.bool y_1.2.2.2)]⟩), (2, ⟨39, false, [.ptr 1 0]⟩)]) (.c rfl <| .c rfl <| .n _) ?_
      exact Res.of rfl (.cons (.cell rfl agg28 rfl rfl rfl rfl) (.nil)) rfl rfl
theorem c20 {β1 : Bool} (n : Nat) (a0_b0 : (List UInt8)) (a0_b1 : Int) (a0_b2 : Bool) {r : (R27 × (List UInt8) × Int × Bool)} (h : m20 n a0_b0 a0_b1 a0_b2 = some r) : Spec Try.prog 20 [1] [.ptr 1 0] [(1, ⟨82, false, [.rd β1 a0_b0.length (a0_b0.flatMap enc8), .sc (.int .i64 a0_b1), .sc (.bool a0_b2)]⟩)] (.agg [.rd false r.1.Outer.length (r.1.Outer.flatMap encR59), .rd false r.1.Holes.length (r.1.Holes.flatMap encL59)]) [(1, ⟨82, false, [.rd β1 r.2.1.length (r.2.1.flatMap enc8), .sc (.int .i64 r.2.2.1), .sc (.bool r.2.2.2)]⟩)] := by
  refine Spec.of (fn := Try.f20) Try.func20 Try.ntmps20 rfl rfl (le1 rfl) (fun w0 Zs Zb T0 ι0 => ?_)
  unfold m20 at h
  refine AWP.seq ?_
  refine AWP.region (.cons (.box (t := 2) (n := 1) (lt1 rfl) (nm rfl) (.tmp rfl) (by first | exact ⟨rfl, rfl⟩ | rfl) rfl) <| .cons (.alloc (t := 3) (k := ⟨28, false, [.sc (.slice none 0 0), .sc (.slice none 0 0)]⟩) (lt1 rfl) (nm rfl) zero28 rfl rfl) <| ARun.nil _ _ _) ?_
  refine AWP.vc (s' := ⟨[(1, .ptr 2 0), (2, .ptr 3 0)], [(3, ⟨28, false, [.sc (.slice none 0 0), .sc (.slice none 0 0)]⟩), (2, ⟨39, false, [.ptr 1 0]⟩), (1, ⟨82, false, [.rd β1 a0_b0.length (a0_b0.flatMap enc8), .sc (.int .i64 a0_b1), .sc (.bool a0_b2)]⟩)]⟩) (VC.sub (.c rfl <| .c rfl <| .n _) (.c rfl <| .c rfl <| .c rfl <| .n _)) ?_
  refine AWP.seq ?_
  obtain ⟨y_1, hy_1, h⟩ := bindS h
  refine AWP.region (.cons (.loadP (lt1 rfl) (.tmp rfl) one39 rfl rfl rfl) <| .cons (.makeFunc (lt1 rfl) (.nil) (.cons (.tmp rfl) (.nil))) <| .cons (.call (σ := sgT [(1, 1), (2, 2)]) (bw := false) (lt1 rfl) (c46 (β1 := β1) n a0_b0 a0_b1 a0_b2 hy_1) (.cons (.tmp rfl) (.ren rfl) (.cons (.tmp rfl) (.ren rfl) (.nil))) (CallOk.mk' (.c rfl (.c rfl (.n))) rfl)) <| .cons (.storePA (.tmp rfl) (.tmp rfl) sz28 rfl rfl (le1 rfl) (one_lit rfl) (by intro h; cases h) rfl) <| ARun.nil _ _ _) ?_
  refine AWP.ret ?_
  obtain rfl := Option.some.inj h
  refine retJ (Res.vc (s' := ⟨[(2, .ptr 3 0)], [(3, ⟨28, false, [.rd false y_1.1.Outer.length (y_1.1.Outer.flatMap encR59), .rd false y_1.1.Holes.length (y_1.1.Holes.flatMap encL59)]⟩), (1, ⟨82, false, [.rd β1 y_1.2.1.length (y_1.2.1.flatMap enc8), .sc (.int .i64 y_1.2.2.1), .sc (.bool y_1.2.2.2)]⟩)]⟩) (VC.sub (.c rfl <| .n _) (.c rfl <| .c rfl <| .n _)) ?_)
  refine Res.sub (H := [(3, ⟨28, false, [.rd false y_1.1.Outer.length (y_1.1.Outer.flatMap encR59), .rd false y_1.1.Holes.length (y_1.1.Holes.flatMap encL59)]⟩), (1, ⟨82, false, [.rd β1 y_1.2.1.length (y_1.2.1.flatMap enc8), .sc (.int .i64 y_1.2.2.1), .sc (.bool y_1.2.2.2)]⟩)]) (.c rfl <| .n _) ?_
  exact Res.of rfl (.cons (.cell rfl agg28 rfl rfl rfl rfl) (.nil)) rfl rfl
theorem c73 (n : Nat) (a0 : Int) {r : Int} (h : m73 n a0 = some r) : Spec Try.prog 73 [] [.sc (.int .i64 a0)] [] (.sc (.int .i64 r)) [] := by
  refine Spec.of (fn := Try.f73) Try.func73 Try.ntmps73 rfl rfl (le1 rfl) (fun w0 Zs Zb T0 ι0 => ?_)
  unfold m73 at h
  refine AWP.seq ?_
  refine AWP.region (.cons (.assign (lt1 rfl) (.const _ _ _)) <| ARun.nil _ _ _) ?_
  refine AWP.vc (s' := ⟨[(0, .sc (.int .i64 a0))], []⟩) (VC.sub (.c rfl <| .n _) (.n _)) ?_
  refine AWP.seq ?_
  refine AWP.seq ?_
  refine AWP.region (.cons (.move (lt1 rfl) (.tmp rfl)) <| .cons (.eql (lt1 rfl) (.tmp rfl) (.const _ _ _)) <| ARun.nil _ _ _) ?_
  refine AWP.vc (s' := ⟨[(0, .sc (.int .i64 a0)), (7, .sc (.bool (decide (a0 = (0 : Int)))))], []⟩) (VC.sub (.c rfl <| .c rfl <| .n _) (.n _)) ?_
  refine AWP.cond (.tmp rfl) (fun hc => ?_) (fun hc => ?_)
  · have h := iteT hc h
    refine AWP.seq ?_
    refine AWP.region (.cons (.assign (lt1 rfl) (.const _ _ _)) <| ARun.nil _ _ _) ?_
    refine AWP.ret ?_
    obtain rfl := Option.some.inj h
    refine retJ (Res.vc (s' := ⟨[(2, .sc (.int .i64 (0 : Int)))], []⟩) (VC.sub (.c rfl <| .n _) (.n _)) ?_)
    refine Res.drop (H := []) rfl ?_
    exact Res.of rfl (.cons (.tmp rfl) (.nil)) rfl rfl
  · have h := iteF hc h
    refine AWP.skip ?_
    refine AWP.seq ?_
    refine AWP.seq ?_
    refine AWP.region (.cons (.assign (lt1 rfl) (.const _ _ _)) <| ARun.nil _ _ _) ?_
    refine AWP.vc (s' := ⟨[(0, .sc (.int .i64 a0)), (3, .sc (.int .i64 (1 : Int)))], []⟩) (VC.sub (.c rfl <| .c rfl <| .n _) (.n _)) ?_
    refine AWP.joinB' (S := fun p_44 : Unit => ⟨[], []⟩) h (fun p_44 h => ?_) (fun k_45 h => ?_)
    · refine AWP.seq ?_
      refine AWP.region (.cons (.assign (lt1 rfl) (.const _ _ _)) <| ARun.nil _ _ _) ?_
      refine AWP.ret ?_
      obtain rfl := Option.some.inj h
      refine retJ (Res.vc (s' := ⟨[(2, .sc (.int .i64 (8 : Int)))], []⟩) (VC.sub (.c rfl <| .n _) (.n _)) ?_)
      refine Res.drop (H := []) rfl ?_
      exact Res.of rfl (.cons (.tmp rfl) (.nil)) rfl rfl
    · refine AWP.vc (s' := ⟨[(0, .sc (.int .i64 a0)), (3, .sc (.int .i64 (1 : Int)))], []⟩) (VC.sub (.c rfl <| .c rfl <| .n _) (.n _)) ?_
      refine AWP.loopM (S := fun x_29 : Int => ⟨[(0, .sc (.int .i64 a0)), (3, .sc (.int .i64 x_29))], []⟩) (x := (1 : Int)) (fun nx_30 x_29 h => ?_) h
      unfold m73_L3 at h
      refine AWP.seq ?_
      refine AWP.seq ?_
      refine AWP.region (.cons (.move (lt1 rfl) (.tmp rfl)) <| .cons (.lss (lt1 rfl) (.tmp rfl) (.const _ _ _)) <| ARun.nil _ _ _) ?_
      refine AWP.vc (s' := ⟨[(0, .sc (.int .i64 a0)), (3, .sc (.int .i64 x_29)), (9, .sc (.bool (decide (x_29 < (8 : Int)))))], []⟩) (VC.sub (.c rfl <| .c rfl <| .c rfl <| .n _) (.n _)) ?_
      refine AWP.cond (.tmp rfl) (fun hc => ?_) (fun hc => ?_)
      · have h := iteT hc h
        refine AWP.skip ?_
        refine AWP.seq ?_
        refine AWP.block ?_
        refine AWP.seq ?_
        refine AWP.region (.cons (.assign (lt1 rfl) (.const _ _ _)) <| ARun.nil _ _ _) ?_
        refine AWP.vc (s' := ⟨[(0, .sc (.int .i64 a0)), (3, .sc (.int .i64 x_29)), (4, .sc (.int .i64 (1 : Int)))], []⟩) (VC.sub (.c rfl <| .c rfl <| .c rfl <| .n _) (.n _)) ?_
        refine AWP.seq ?_
        refine AWP.seq ?_
        refine AWP.region (.cons (.assign (lt1 rfl) (.const _ _ _)) <| ARun.nil _ _ _) ?_
        refine AWP.vc (s' := ⟨[(0, .sc (.int .i64 a0)), (3, .sc (.int .i64 x_29)), (4, .sc (.int .i64 (1 : Int))), (5, .sc (.int .i64 (0 : Int)))], []⟩) (VC.sub (.c rfl <| .c rfl <| .c rfl <| .c rfl <| .n _) (.n _)) ?_
        refine AWP.joinB' (S := fun p_41 : Int => ⟨[(0, .sc (.int .i64 a0)), (3, .sc (.int .i64 x_29)), (4, .sc (.int .i64 p_41))], []⟩) h (fun p_41 h => ?_) (fun k_42 h => ?_)
        · refine AWP.seq ?_
          refine AWP.region (.cons (.move (lt1 rfl) (.tmp rfl)) <| .cons (.move (lt1 rfl) (.tmp rfl)) <| .cons (.neg (lt1 rfl) (.tmp rfl)) <| .cons (.geq (lt1 rfl) (.tmp rfl) (.tmp rfl)) <| .cons (.move (lt1 rfl) (.tmp rfl)) <| .guard (j := 4) (dj := 25) rfl (lt1 rfl) rfl (lt1 rfl) (fun hg => .move (lt1 rfl) (.tmp rfl)) <| .guard (j := 4) (dj := 25) rfl (lt1 rfl) rfl (lt1 rfl) (fun hg => .move (lt1 rfl) (.tmp rfl)) <| .guard (j := 4) (dj := 25) rfl (lt1 rfl) rfl (lt1 rfl) (fun hg => .lss (lt1 rfl) (.gd hg (.tmp rfl)) (.gd hg (.tmp rfl))) <| .cons (.pickAnd (lt1 rfl) (.tmp rfl) (.tmp rfl) (.const _ _ _)) <| ARun.nil _ _ _) ?_
          refine AWP.vc (s' := ⟨[(0, .sc (.int .i64 a0)), (3, .sc (.int .i64 x_29)), (29, .sc (.bool ((decide ((IntKind.wrap .i64 (0 - p_41)) ≤ a0)) && (decide (a0 < p_41)))))], []⟩) (VC.sub (.c rfl <| .c rfl <| .c rfl <| .n _) (.n _)) ?_
          refine AWP.cond (.tmp rfl) (fun hc => ?_) (fun hc => ?_)
          · have h := iteT hc h
            refine AWP.seq ?_
            refine AWP.region (.cons (.move (lt1 rfl) (.tmp rfl)) <| .cons (.assign (lt1 rfl) (.tmp rfl)) <| ARun.nil _ _ _) ?_
            refine AWP.ret ?_
            obtain rfl := Option.some.inj h
            refine retJ (Res.vc (s' := ⟨[(2, .sc (.int .i64 x_29))], []⟩) (VC.sub (.c rfl <| .n _) (.n _)) ?_)
            refine Res.drop (H := []) rfl ?_
            exact Res.of rfl (.cons (.tmp rfl) (.nil)) rfl rfl
          · have h := iteF hc h
            refine AWP.skip ?_
            obtain ⟨t3_43, ht3_43, h⟩ := letS h
            refine AWP.region (.cons (.move (lt1 rfl) (.tmp rfl)) <| .cons (.add (lt1 rfl) (.tmp rfl) (.const _ _ _)) <| .cons (.assign (lt1 rfl) (.tmp rfl)) <| ARun.nil _ _ _) ?_
            exact endJ t3_43 h (by subst ht3_43; exact VC.sub (.c rfl <| .c rfl <| .n _) (.n _))
        · refine AWP.vc (s' := ⟨[(0, .sc (.int .i64 a0)), (3, .sc (.int .i64 x_29)), (4, .sc (.int .i64 (1 : Int))), (5, .sc (.int .i64 (0 : Int)))], []⟩) (VC.sub (.c rfl <| .c rfl <| .c rfl <| .c rfl <| .n _) (.n _)) ?_
          refine AWP.loopM (S := fun x_37 : Int × Int => ⟨[(0, .sc (.int .i64 a0)), (3, .sc (.int .i64 x_29)), (4, .sc (.int .i64 x_37.1)), (5, .sc (.int .i64 x_37.2))], []⟩) (x := ((1 : Int), (0 : Int))) (fun nx_38 x_37 h => ?_) h
          unfold m73_L4 at h
          refine AWP.seq ?_
          refine AWP.seq ?_
          refine AWP.region (.cons (.move (lt1 rfl) (.tmp rfl)) <| .cons (.move (lt1 rfl) (.tmp rfl)) <| .cons (.mul (lt1 rfl) (.const _ _ _) (.tmp rfl)) <| .cons (.sub (lt1 rfl) (.tmp rfl) (.const _ _ _)) <| .cons (.lss (lt1 rfl) (.tmp rfl) (.tmp rfl)) <| ARun.nil _ _ _) ?_
          refine AWP.vc (s' := ⟨[(0, .sc (.int .i64 a0)), (3, .sc (.int .i64 x_29)), (4, .sc (.int .i64 x_37.1)), (5, .sc (.int .i64 x_37.2)), (16, .sc (.bool (decide (x_37.2 < (IntKind.wrap .i64 ((IntKind.wrap .i64 ((8 : Int) * x_29)) - (1 : Int)))))))], []⟩) (VC.sub (.c rfl <| .c rfl <| .c rfl <| .c rfl <| .c rfl <| .n _) (.n _)) ?_
          refine AWP.cond (.tmp rfl) (fun hc => ?_) (fun hc => ?_)
          · have h := iteT hc h
            refine AWP.skip ?_
            refine AWP.seq ?_
            refine AWP.block ?_
            obtain ⟨t4_39, ht4_39, h⟩ := letS h
            refine AWP.region (.cons (.move (lt1 rfl) (.tmp rfl)) <| .cons (.mul (lt1 rfl) (.const _ _ _) (.tmp rfl)) <| .cons (.assign (lt1 rfl) (.tmp rfl)) <| ARun.nil _ _ _) ?_
            refine AWP.vc (s' := ⟨[(0, .sc (.int .i64 a0)), (3, .sc (.int .i64 x_29)), (4, .sc (.int .i64 t4_39)), (5, .sc (.int .i64 x_37.2))], []⟩) (by subst ht4_39; exact VC.sub (.c rfl <| .c rfl <| .c rfl <| .c rfl <| .n _) (.n _)) ?_
            obtain ⟨t5_40, ht5_40, h⟩ := letS h
            refine AWP.region (.cons (.move (lt1 rfl) (.tmp rfl)) <| .cons (.add (lt1 rfl) (.tmp rfl) (.const _ _ _)) <| .cons (.assign (lt1 rfl) (.tmp rfl)) <| ARun.nil _ _ _) ?_
            exact endJ (t4_39, t5_40) h (by subst ht5_40; exact VC.sub (.c rfl <| .c rfl <| .c rfl <| .c rfl <| .n _) (.n _))
          · have h := iteF hc h
            refine AWP.exit ?_
            exact endJ x_37.1 h (VC.sub (.c rfl <| .c rfl <| .c rfl <| .n _) (.n _))
      · have h := iteF hc h
        refine AWP.exit ?_
        exact endJ () h (VC.sub (.n _) (.n _))
end Go.AB
