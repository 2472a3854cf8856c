import Derived.Test.YtpcjbgfgimboiaaProg
import Derived.Test.YtpcjbgfgimboiaaF3a
import Derived.KernelRfl
set_option linter.unusedVariables false
namespace Go.AB
open Go Go.Proofs
theorem c14 {β1 : Bool} {β2 : Bool} (n : Nat) (a0 : (List R27)) (a1 : (List R27)) {r : Bool} (h : m14 n a0 a1 = some r) : Spec Try.prog 14 [] [.rd β1 a0.length (a0.flatMap encR27), .rd β2 a1.length (a1.flatMap encR27)] [] (.sc (.bool r)) [] := by
  refine Spec.of (fn := Try.f14) Try.func14 Try.ntmps14 rfl rfl (le1 rfl) (fun w0 Zs Zb T0 ι0 => ?_)
  unfold m14 at h
  refine AWP.seq ?_
  refine AWP.region (.cons (.assign (lt1 rfl) (.const _ _ _)) <| ARun.nil _ _ _) ?_
  refine AWP.vc (s' := ⟨[(0, .rd β1 a0.length (a0.flatMap encR27)), (1, .rd β2 a1.length (a1.flatMap encR27))], []⟩) (VC.sub (.c rfl <| .c rfl <| .n _) (.n _)) ?_
  refine AWP.seq ?_
  refine AWP.seq ?_
  refine AWP.region (.cons (.move (lt1 rfl) (.tmp rfl)) <| .cons (.lenRd (lt1 rfl) (.tmp rfl) Try.underlying22) <| .cons (.move (lt1 rfl) (.tmp rfl)) <| .cons (.lenRd (lt1 rfl) (.tmp rfl) Try.underlying22) <| .cons (.neq (lt1 rfl) (.tmp rfl) (.tmp rfl)) <| ARun.nil _ _ _) ?_
  refine AWP.vc (s' := ⟨[(0, .rd β1 a0.length (a0.flatMap encR27)), (1, .rd β2 a1.length (a1.flatMap encR27)), (10, .sc (.bool (!decide ((a0.length : Int) = (a1.length : Int)))))], []⟩) (VC.sub (.c rfl <| .c rfl <| .c rfl <| .n _) (.n _)) ?_
  refine AWP.cond (.tmp rfl) (fun hc => ?_) (fun hc => ?_)
  · have h := iteT hc h
    refine AWP.seq ?_
    refine AWP.region (.cons (.assign (lt1 rfl) (.const _ _ _)) <| ARun.nil _ _ _) ?_
    refine AWP.ret ?_
    obtain rfl := Option.some.inj h
    refine retJ (Res.vc (s' := ⟨[(4, .sc (.bool false))], []⟩) (VC.sub (.c rfl <| .n _) (.n _)) ?_)
    refine Res.drop (H := []) rfl ?_
    exact Res.of rfl (.cons (.tmp rfl) (.nil)) rfl rfl
  · have h := iteF hc h
    refine AWP.skip ?_
    refine AWP.seq ?_
    refine AWP.seq ?_
    refine AWP.region (.cons (.assign (lt1 rfl) (.const _ _ _)) <| ARun.nil _ _ _) ?_
    refine AWP.vc (s' := ⟨[(0, .rd β1 a0.length (a0.flatMap encR27)), (1, .rd β2 a1.length (a1.flatMap encR27)), (5, .sc (.int .i64 (0 : Int)))], []⟩) (VC.sub (.c rfl <| .c rfl <| .c rfl <| .n _) (.n _)) ?_
    refine AWP.joinB' (S := fun p_10 : Unit => ⟨[], []⟩) h (fun p_10 h => ?_) (fun k_11 h => ?_)
    · refine AWP.seq ?_
      refine AWP.region (.cons (.assign (lt1 rfl) (.const _ _ _)) <| ARun.nil _ _ _) ?_
      refine AWP.ret ?_
      obtain rfl := Option.some.inj h
      refine retJ (Res.vc (s' := ⟨[(4, .sc (.bool true))], []⟩) (VC.sub (.c rfl <| .n _) (.n _)) ?_)
      refine Res.drop (H := []) rfl ?_
      exact Res.of rfl (.cons (.tmp rfl) (.nil)) rfl rfl
    · refine AWP.vc (s' := ⟨[(0, .rd β1 a0.length (a0.flatMap encR27)), (1, .rd β2 a1.length (a1.flatMap encR27)), (5, .sc (.int .i64 (0 : Int)))], []⟩) (VC.sub (.c rfl <| .c rfl <| .c rfl <| .n _) (.n _)) ?_
      refine AWP.loopM (S := fun x_5 : Int => ⟨[(0, .rd β1 a0.length (a0.flatMap encR27)), (1, .rd β2 a1.length (a1.flatMap encR27)), (5, .sc (.int .i64 x_5))], []⟩) (x := (0 : Int)) (fun nx_6 x_5 h => ?_) h
      unfold m14_L1 at h
      refine AWP.seq ?_
      refine AWP.seq ?_
      refine AWP.region (.cons (.move (lt1 rfl) (.tmp rfl)) <| .cons (.move (lt1 rfl) (.tmp rfl)) <| .cons (.lenRd (lt1 rfl) (.tmp rfl) Try.underlying22) <| .cons (.lss (lt1 rfl) (.tmp rfl) (.tmp rfl)) <| ARun.nil _ _ _) ?_
      refine AWP.vc (s' := ⟨[(0, .rd β1 a0.length (a0.flatMap encR27)), (1, .rd β2 a1.length (a1.flatMap encR27)), (5, .sc (.int .i64 x_5)), (14, .sc (.bool (decide (x_5 < (a0.length : Int)))))], []⟩) (VC.sub (.c rfl <| .c rfl <| .c rfl <| .c rfl <| .n _) (.n _)) ?_
      refine AWP.cond (.tmp rfl) (fun hc => ?_) (fun hc => ?_)
      · have h := iteT hc h
        refine AWP.skip ?_
        refine AWP.seq ?_
        refine AWP.block ?_
        refine AWP.seq ?_
        obtain ⟨y_7, hy_7, h⟩ := bindS h
        obtain ⟨y_8, hy_8, h⟩ := bindS h
        refine AWP.draw (s' := ⟨[(0, .rd β1 a0.length (a0.flatMap encR27)), (1, .rd β2 a1.length (a1.flatMap encR27)), (5, .sc (.int .i64 x_5)), (25, .sc (.bool (!(([y_7.Key, y_7.Tag] : List Int) == [y_8.Key, y_8.Tag]))))], []⟩) mixed [⟨0, .rd β1 a0.length (a0.flatMap encR27), none, []⟩, ⟨1, .rd β2 a1.length (a1.flatMap encR27), none, []⟩, ⟨5, .sc (.int .i64 x_5), none, []⟩, ⟨14, .sc (.bool (decide (x_5 < (a0.length : Int)))), none, []⟩, ⟨17, .rd β1 a0.length (a0.flatMap encR27), some 0, []⟩, ⟨18, .sc (.int .i64 x_5), some 1, []⟩, ⟨19, .rptr β1 [.sc (.int .i64 y_7.Key), .sc (.int .i64 y_7.Tag)], some 2, []⟩, ⟨20, .agg [.sc (.int .i64 y_7.Key), .sc (.int .i64 y_7.Tag)], some 3, []⟩, ⟨21, .rd β2 a1.length (a1.flatMap encR27), some 4, []⟩, ⟨22, .sc (.int .i64 x_5), some 5, []⟩, ⟨23, .rptr β2 [.sc (.int .i64 y_8.Key), .sc (.int .i64 y_8.Tag)], some 6, []⟩, ⟨24, .agg [.sc (.int .i64 y_8.Key), .sc (.int .i64 y_8.Tag)], some 7, []⟩, ⟨25, .sc (.bool (!(([y_7.Key, y_7.Tag] : List Int) == [y_8.Key, y_8.Tag]))), some 8, []⟩] [⟨[0], 0, 0, some (17, .rd β1 a0.length (a0.flatMap encR27)), []⟩, ⟨[2], 0, 0, some (18, .sc (.int .i64 x_5)), []⟩, ⟨[4, 5], 0, 0, some (19, .rptr β1 [.sc (.int .i64 y_7.Key), .sc (.int .i64 y_7.Tag)]), []⟩, ⟨[6], 0, 0, some (20, .agg [.sc (.int .i64 y_7.Key), .sc (.int .i64 y_7.Tag)]), []⟩, ⟨[1], 0, 0, some (21, .rd β2 a1.length (a1.flatMap encR27)), []⟩, ⟨[2], 0, 0, some (22, .sc (.int .i64 x_5)), []⟩, ⟨[8, 9], 0, 0, some (23, .rptr β2 [.sc (.int .i64 y_8.Key), .sc (.int .i64 y_8.Tag)]), []⟩, ⟨[10], 0, 0, some (24, .agg [.sc (.int .i64 y_8.Key), .sc (.int .i64 y_8.Tag)]), []⟩, ⟨[7, 11], 0, 0, some (25, .sc (.bool (!(([y_7.Key, y_7.Tag] : List Int) == [y_8.Key, y_8.Tag])))), []⟩] [] [[]] [[], [], [0, 1], [0, 1, 2], [], [], [4, 5], [4, 5, 6], [0, 1, 2, 3, 4, 5, 6, 7]] (by kernel_rfl) (by kernel_rfl) (BornL.ok (.o <| .o <| .o <| .o <| .b rfl rfl <| .b rfl rfl <| .b rfl rfl <| .b rfl rfl <| .b rfl rfl <| .b rfl rfl <| .b rfl rfl <| .b rfl rfl <| .b rfl rfl <| .n)) (BaseL.ok (.o rfl <| .o rfl <| .o rfl <| .o rfl <| .b <| .b <| .b <| .b <| .b <| .b <| .b <| .b <| .b <| .n)) rfl (by decide) (allLt rfl) (.pure rfl (fun H => .put (fun E hE => .move (lt1 rfl) (.tmp (hE.at (k := 0) rfl)))) <| .pure rfl (fun H => .put (fun E hE => .move (lt1 rfl) (.tmp (hE.at (k := 0) rfl)))) <| .pure rfl (fun H => .put (fun E hE => .indexRd (enc := encR27) (lt1 rfl) (.tmp (hE.at (k := 0) rfl)) (.tmp (hE.at (k := 1) rfl)) Try.underlying22 sz28 encR27_len rfl hy_7)) <| .pure rfl (fun H => .put (fun E hE => .loadRA (out := [.sc (.int .i64 y_7.Key), .sc (.int .i64 y_7.Tag)]) (lt1 rfl) (.tmp (hE.at (k := 0) rfl)) agg28 (Nat.le_of_eq (Eq.symm (encR27_len _))) rfl)) <| .pure rfl (fun H => .put (fun E hE => .move (lt1 rfl) (.tmp (hE.at (k := 0) rfl)))) <| .pure rfl (fun H => .put (fun E hE => .move (lt1 rfl) (.tmp (hE.at (k := 0) rfl)))) <| .pure rfl (fun H => .put (fun E hE => .indexRd (enc := encR27) (lt1 rfl) (.tmp (hE.at (k := 0) rfl)) (.tmp (hE.at (k := 1) rfl)) Try.underlying22 sz28 encR27_len rfl hy_8)) <| .pure rfl (fun H => .put (fun E hE => .loadRA (out := [.sc (.int .i64 y_8.Key), .sc (.int .i64 y_8.Tag)]) (lt1 rfl) (.tmp (hE.at (k := 0) rfl)) agg28 (Nat.le_of_eq (Eq.symm (encR27_len _))) rfl)) <| .pure rfl (fun H => .put (fun E hE => .strCmp1 (us := [y_7.Key, y_7.Tag]) (vs := [y_8.Key, y_8.Tag]) (lt1 rfl) (.tmp (hE.at (k := 0) rfl)) (.tmp (hE.at (k := 1) rfl)) Try.underlying28 (.cons _ _ _ (by decide) rfl Try.underlying3 (.cons _ _ _ (by decide) rfl Try.underlying3 (.nil _))) si28 gt28 rfl rfl)) <| .nil _) (fun E hE => .c (DInv.at hE (k := 0) rfl rfl rfl) <| .c (DInv.at hE (k := 1) rfl rfl rfl) <| .c (DInv.at hE (k := 2) rfl rfl rfl) <| .c (DInv.at hE (k := 12) rfl rfl rfl) <| .n _) rfl ?_
        refine AWP.vc (s' := ⟨[(0, .rd β1 a0.length (a0.flatMap encR27)), (1, .rd β2 a1.length (a1.flatMap encR27)), (5, .sc (.int .i64 x_5)), (25, .sc (.bool (!(([y_7.Key, y_7.Tag] : List Int) == [y_8.Key, y_8.Tag]))))], []⟩) (VC.sub (.c rfl <| .c rfl <| .c rfl <| .c rfl <| .n _) (.n _)) ?_
        refine AWP.cond (.tmp rfl) (fun hc => ?_) (fun hc => ?_)
        · have h := iteT hc h
          refine AWP.seq ?_
          refine AWP.region (.cons (.assign (lt1 rfl) (.const _ _ _)) <| ARun.nil _ _ _) ?_
          refine AWP.ret ?_
          obtain rfl := Option.some.inj h
          refine retJ (Res.vc (s' := ⟨[(4, .sc (.bool false))], []⟩) (VC.sub (.c rfl <| .n _) (.n _)) ?_)
          refine Res.drop (H := []) rfl ?_
          exact Res.of rfl (.cons (.tmp rfl) (.nil)) rfl rfl
        · have h := iteF hc h
          refine AWP.skip ?_
          obtain ⟨t5_9, ht5_9, h⟩ := letS h
          refine AWP.region (.cons (.move (lt1 rfl) (.tmp rfl)) <| .cons (.add (lt1 rfl) (.tmp rfl) (.const _ _ _)) <| .cons (.assign (lt1 rfl) (.tmp rfl)) <| ARun.nil _ _ _) ?_
          exact endJ t5_9 h (by subst ht5_9; exact VC.sub (.c rfl <| .c rfl <| .c rfl <| .n _) (.n _))
      · have h := iteF hc h
        refine AWP.exit ?_
        exact endJ () h (VC.sub (.n _) (.n _))
theorem c17 (n : Nat) (a0_b1_b : (List R68)) (a0_b2 : Int) {r : ((List R27) × Int × (List R68))} (h : m17 n a0_b1_b a0_b2 = some r) : Spec Try.prog 17 [1, 2] [.ptr 1 0] [(1, ⟨67, false, [.clo (.func 13) [] [], .own 2 3 0 a0_b1_b.length, .sc (.int .i64 a0_b2)]⟩), (2, ⟨69, true, a0_b1_b.flatMap encR68⟩)] (.rd false r.1.length (r.1.flatMap encR27)) [(1, ⟨67, false, [.clo (.func 13) [] [], .own 2 3 0 r.2.2.length, .sc (.int .i64 r.2.1)]⟩), (2, ⟨69, true, r.2.2.flatMap encR68⟩)] := by
  refine Spec.of (fn := Try.f17) Try.func17 Try.ntmps17 rfl rfl (le1 rfl) (fun w0 Zs Zb T0 ι0 => ?_)
  unfold m17 at h
  refine AWP.seq ?_
  refine AWP.region (.cons (.assign (lt1 rfl) (.const _ _ _)) <| ARun.nil _ _ _) ?_
  refine AWP.vc (s' := ⟨[(0, .ptr 1 0)], [(1, ⟨67, false, [.clo (.func 13) [] [], .own 2 3 0 a0_b1_b.length, .sc (.int .i64 a0_b2)]⟩), (2, ⟨69, true, a0_b1_b.flatMap encR68⟩)]⟩) (VC.sub (.c rfl <| .n _) (.c rfl <| .c rfl <| .n _)) ?_
  refine AWP.seq ?_
  refine AWP.region (.cons (.assign (lt1 rfl) (.const _ _ _)) <| ARun.nil _ _ _) ?_
  refine AWP.vc (s' := ⟨[(0, .ptr 1 0), (3, .sc (.slice none 0 0))], [(1, ⟨67, false, [.clo (.func 13) [] [], .own 2 3 0 a0_b1_b.length, .sc (.int .i64 a0_b2)]⟩), (2, ⟨69, true, a0_b1_b.flatMap encR68⟩)]⟩) (VC.sub (.c rfl <| .c rfl <| .n _) (.c rfl <| .c rfl <| .n _)) ?_
  refine AWP.seq ?_
  refine AWP.seq ?_
  obtain ⟨y_1, hy_1, h⟩ := bindS h
  refine AWP.region (.cons (.move (lt1 rfl) (.tmp rfl)) <| .cons (.keep (bw := false) (AStep.call (σ := sgT [(1, 1), (2, 2)]) (bw := false) (lt1 rfl) (c16 n a0_b1_b a0_b2 hy_1) (.cons (.tmp rfl) (.ren rfl) (.nil)) (CallOk.mk' (.c rfl (.c rfl (.n))) rfl)) (CallOk.mk' (.c rfl (.c rfl (.n))) rfl) rfl rfl) <| .cons (.assign (lt1 rfl) (.tmp rfl)) <| ARun.nil _ _ _) ?_
  refine AWP.vc (s' := ⟨[(0, .ptr 1 0), (3, .sc (.slice none 0 0)), (4, .sc (.int .i64 y_1))], [(1, ⟨67, false, [.clo (.func 13) [] [], .own 2 3 0 a0_b1_b.length, .sc (.int .i64 a0_b2)]⟩), (2, ⟨69, true, a0_b1_b.flatMap encR68⟩)]⟩) (VC.sub (.c rfl <| .c rfl <| .c rfl <| .n _) (.c rfl <| .c rfl <| .n _)) ?_
  refine AWP.joinB' (S := fun p_15 : Int × (List R68) × (List R27) => ⟨[(3, .own 3 2 0 p_15.2.2.length)], [(1, ⟨67, false, [.clo (.func 13) [] [], .own 2 3 0 p_15.2.1.length, .sc (.int .i64 p_15.1)]⟩), (2, ⟨69, true, p_15.2.1.flatMap encR68⟩), (3, ⟨28, true, p_15.2.2.flatMap encR27⟩)]⟩) h (fun p_15 h => ?_) (fun k_16 h => ?_)
  · refine AWP.seq ?_
    refine AWP.region (.cons (.move (lt1 rfl) (.tmp rfl)) <| .cons (.assign (lt1 rfl) (.tmp rfl)) <| ARun.nil _ _ _) ?_
    refine AWP.ret ?_
    obtain rfl := Option.some.inj h
    refine retJ (Res.vc (s' := ⟨[(2, .rd false p_15.2.2.length (p_15.2.2.flatMap encR27))], [(1, ⟨67, false, [.clo (.func 13) [] [], .own 2 3 0 p_15.2.1.length, .sc (.int .i64 p_15.1)]⟩), (2, ⟨69, true, p_15.2.1.flatMap encR68⟩)]⟩) (VC.trans (VC.frz (d := 2) (t := 3) rfl rfl encR27_len) (VC.sub (.c rfl <| .n _) (.c rfl <| .c rfl <| .n _))) ?_)
    refine Res.sub (H := [(1, ⟨67, false, [.clo (.func 13) [] [], .own 2 3 0 p_15.2.1.length, .sc (.int .i64 p_15.1)]⟩), (2, ⟨69, true, p_15.2.1.flatMap encR68⟩)]) (.c rfl <| .c rfl <| .n _) ?_
    exact Res.of rfl (.cons (.tmp rfl) (.nil)) rfl rfl
  · refine AWP.vc (VC.nilOwn (d := 3) (t := 3) (sz := 2) (E := 28) rfl (nm rfl)) ?_
    refine AWP.vc (s' := ⟨[(0, .ptr 1 0), (3, .own 3 2 0 ([] : List R27).length), (4, .sc (.int .i64 y_1))], [(1, ⟨67, false, [.clo (.func 13) [] [], .own 2 3 0 a0_b1_b.length, .sc (.int .i64 a0_b2)]⟩), (2, ⟨69, true, a0_b1_b.flatMap encR68⟩), (3, ⟨28, true, ([] : List R27).flatMap encR27⟩)]⟩) (VC.sub (.c rfl <| .c rfl <| .c rfl <| .n _) (.c rfl <| .c rfl <| .c rfl <| .n _)) ?_
    refine AWP.loopM (S := fun x_10 : Int × Int × (List R68) × (List R27) => ⟨[(0, .ptr 1 0), (3, .own 3 2 0 x_10.2.2.2.length), (4, .sc (.int .i64 x_10.1))], [(1, ⟨67, false, [.clo (.func 13) [] [], .own 2 3 0 x_10.2.2.1.length, .sc (.int .i64 x_10.2.1)]⟩), (2, ⟨69, true, x_10.2.2.1.flatMap encR68⟩), (3, ⟨28, true, x_10.2.2.2.flatMap encR27⟩)]⟩) (x := (y_1, a0_b2, a0_b1_b, ([] : List R27))) (fun nx_11 x_10 h => ?_) h
    unfold m17_L1 at h
    refine AWP.seq ?_
    refine AWP.seq ?_
    refine AWP.region (.cons (.move (lt1 rfl) (.tmp rfl)) <| .cons (.gtr (lt1 rfl) (.tmp rfl) (.const _ _ _)) <| ARun.nil _ _ _) ?_
    refine AWP.vc (s' := ⟨[(0, .ptr 1 0), (3, .own 3 2 0 x_10.2.2.2.length), (4, .sc (.int .i64 x_10.1)), (10, .sc (.bool (decide ((0 : Int) < x_10.1))))], [(1, ⟨67, false, [.clo (.func 13) [] [], .own 2 3 0 x_10.2.2.1.length, .sc (.int .i64 x_10.2.1)]⟩), (2, ⟨69, true, x_10.2.2.1.flatMap encR68⟩), (3, ⟨28, true, x_10.2.2.2.flatMap encR27⟩)]⟩) (VC.sub (.c rfl <| .c rfl <| .c rfl <| .c rfl <| .n _) (.c rfl <| .c rfl <| .c rfl <| .n _)) ?_
    refine AWP.cond (.tmp rfl) (fun hc => ?_) (fun hc => ?_)
    · have h := iteT hc h
      refine AWP.skip ?_
      refine AWP.seq ?_
      refine AWP.block ?_
      refine AWP.seq ?_
      obtain ⟨y_12, hy_12, h⟩ := bindS h
      refine AWP.region (.cons (.move (lt1 rfl) (.tmp rfl)) <| .cons (.call (σ := sgT [(1, 1), (2, 2)]) (bw := false) (lt1 rfl) (c21 n x_10.2.2.1 x_10.2.1 hy_12) (.cons (.tmp rfl) (.ren rfl) (.nil)) (CallOk.mk' (.c rfl (.c rfl (.n))) rfl)) <| .cons (.move (lt1 rfl) (.tmp rfl)) <| .cons (.extract (lt1 rfl) (.tmp rfl) rfl) <| .cons (.extract (lt1 rfl) (.tmp rfl) rfl) <| .cons (.alloc (t := 4) (k := ⟨28, false, [.sc (.int .i64 (0 : Int)), .sc (.int .i64 (0 : Int))]⟩) (lt1 rfl) (nm rfl) zero28 rfl rfl) <| .cons (.storePA (.tmp rfl) (.tmp rfl) sz28 rfl rfl (le1 rfl) (one_lit rfl) (by intro h; cases h) rfl) <| .cons (.assign (lt1 rfl) (.tmp rfl)) <| ARun.nil _ _ _) ?_
      refine AWP.vc (s' := ⟨[(0, .ptr 1 0), (3, .own 3 2 0 x_10.2.2.2.length), (4, .sc (.int .i64 x_10.1)), (5, .ptr 4 0), (6, .sc (.bool y_12.2.1))], [(4, ⟨28, false, [.sc (.int .i64 y_12.1.Key), .sc (.int .i64 y_12.1.Tag)]⟩), (1, ⟨67, false, [.clo (.func 13) [] [], .own 2 3 0 y_12.2.2.2.length, .sc (.int .i64 y_12.2.2.1)]⟩), (2, ⟨69, true, y_12.2.2.2.flatMap encR68⟩), (3, ⟨28, true, x_10.2.2.2.flatMap encR27⟩)]⟩) (VC.sub (.c rfl <| .c rfl <| .c rfl <| .c rfl <| .c rfl <| .n _) (.c rfl <| .c rfl <| .c rfl <| .c rfl <| .n _)) ?_
      refine AWP.seq ?_
      refine AWP.seq ?_
      refine AWP.region (.cons (.move (lt1 rfl) (.tmp rfl)) <| .cons (.not (lt1 rfl) (.tmp rfl)) <| ARun.nil _ _ _) ?_
      refine AWP.vc (s' := ⟨[(0, .ptr 1 0), (3, .own 3 2 0 x_10.2.2.2.length), (4, .sc (.int .i64 x_10.1)), (5, .ptr 4 0), (19, .sc (.bool (!y_12.2.1)))], [(4, ⟨28, false, [.sc (.int .i64 y_12.1.Key), .sc (.int .i64 y_12.1.Tag)]⟩), (1, ⟨67, false, [.clo (.func 13) [] [], .own 2 3 0 y_12.2.2.2.length, .sc (.int .i64 y_12.2.2.1)]⟩), (2, ⟨69, true, y_12.2.2.2.flatMap encR68⟩), (3, ⟨28, true, x_10.2.2.2.flatMap encR27⟩)]⟩) (VC.sub (.c rfl <| .c rfl <| .c rfl <| .c rfl <| .c rfl <| .n _) (.c rfl <| .c rfl <| .c rfl <| .c rfl <| .n _)) ?_
      refine AWP.cond (.tmp rfl) (fun hc => ?_) (fun hc => ?_)
      · have h := iteT hc h
        refine AWP.seq ?_
        refine AWP.region (.cons (.assign (lt1 rfl) (.const _ _ _)) <| ARun.nil _ _ _) ?_
        refine AWP.ret ?_
        obtain rfl := Option.some.inj h
        refine retJ (Res.vc (s' := ⟨[(2, .rd false ([] : List R27).length (([] : List R27).flatMap encR27))], [(1, ⟨67, false, [.clo (.func 13) [] [], .own 2 3 0 y_12.2.2.2.length, .sc (.int .i64 y_12.2.2.1)]⟩), (2, ⟨69, true, y_12.2.2.2.flatMap encR68⟩)]⟩) (VC.trans (VC.nilRd (d := 2) false rfl) (VC.sub (.c rfl <| .n _) (.c rfl <| .c rfl <| .n _))) ?_)
        refine Res.sub (H := [(1, ⟨67, false, [.clo (.func 13) [] [], .own 2 3 0 y_12.2.2.2.length, .sc (.int .i64 y_12.2.2.1)]⟩), (2, ⟨69, true, y_12.2.2.2.flatMap encR68⟩)]) (.c rfl <| .c rfl <| .n _) ?_
        exact Res.of rfl (.cons (.tmp rfl) (.nil)) rfl rfl
      · have h := iteF hc h
        refine AWP.skip ?_
        obtain ⟨l3_13, hl3_13, h⟩ := bindS h
        refine AWP.region (.cons (.move (lt1 rfl) (.tmp rfl)) <| .cons (.loadPA (lt1 rfl) (.tmp rfl) agg28 rfl rfl rfl rfl) <| .cons (.buildSlice (t := 5) (out := ([(R27.mk y_12.1.Key y_12.1.Tag)] : List R27).flatMap encR27) (lt1 rfl) (nm rfl) (.cons (.tmp rfl) (by first | exact ⟨rfl, rfl⟩ | rfl) (.nil)) Try.underlying22 zero28 el28 (by decide) (by decide) rfl (still_all encR27_still _)) <| .cons (.app (enc := encR27) (lt1 rfl) (nm rfl) (.tmp rfl) (Src.own (.tmp rfl) rfl (lendAll encR27_len _) (flatMap_length encR27_len _) (one_all encR27_one _) (.inl rfl)) Try.underlying22 ⟨_, Try.underlying22, by intro k hk; cases hk⟩ el28 rfl encR27_len rfl rfl (by decide) hl3_13) <| .cons (.assign (lt1 rfl) (.tmp rfl)) <| ARun.nil _ _ _) ?_
        refine AWP.vc (s' := ⟨[(0, .ptr 1 0), (3, .own 3 2 0 l3_13.length), (4, .sc (.int .i64 x_10.1))], [(3, ⟨28, true, l3_13.flatMap encR27⟩), (1, ⟨67, false, [.clo (.func 13) [] [], .own 2 3 0 y_12.2.2.2.length, .sc (.int .i64 y_12.2.2.1)]⟩), (2, ⟨69, true, y_12.2.2.2.flatMap encR68⟩)]⟩) (VC.sub (.c rfl <| .c rfl <| .c rfl <| .n _) (.c rfl <| .c rfl <| .c rfl <| .n _)) ?_
        obtain ⟨t4_14, ht4_14, h⟩ := letS h
        refine AWP.region (.cons (.move (lt1 rfl) (.tmp rfl)) <| .cons (.sub (lt1 rfl) (.tmp rfl) (.const _ _ _)) <| .cons (.assign (lt1 rfl) (.tmp rfl)) <| ARun.nil _ _ _) ?_
        exact endJ (t4_14, y_12.2.2.1, y_12.2.2.2, l3_13) h (by subst ht4_14; exact VC.sub (.c rfl <| .c rfl <| .c rfl <| .n _) (.c rfl <| .c rfl <| .c rfl <| .n _))
    · have h := iteF hc h
      refine AWP.exit ?_
      exact endJ (x_10.2.1, x_10.2.2.1, x_10.2.2.2) h (VC.sub (.c rfl <| .n _) (.c rfl <| .c rfl <| .c rfl <| .n _))
theorem c3 {β1 : Bool} (n : Nat) (a0 : (List R27)) {r : Bool} (h : m3 n a0 = some r) : Spec Try.prog 3 [] [.rd β1 a0.length (a0.flatMap encR27)] [] (.sc (.bool r)) [] := by
  refine Spec.of (fn := Try.f3) Try.func3 Try.ntmps3 rfl rfl (le1 rfl) (fun w0 Zs Zb T0 ι0 => ?_)
  unfold m3 at h
  refine AWP.seq ?_
  refine AWP.region (.cons (.assign (lt1 rfl) (.const _ _ _)) <| ARun.nil _ _ _) ?_
  refine AWP.vc (s' := ⟨[(0, .rd β1 a0.length (a0.flatMap encR27))], []⟩) (VC.sub (.c rfl <| .n _) (.n _)) ?_
  refine AWP.seq ?_
  refine AWP.seq ?_
  obtain ⟨y_1, hy_1, h⟩ := bindS h
  refine AWP.region (.cons (.call0 (bw := false) (lt1 rfl) (c10 n hy_1) (.nil) rfl) <| .cons (.not (lt1 rfl) (.tmp rfl)) <| ARun.nil _ _ _) ?_
  refine AWP.vc (s' := ⟨[(0, .rd β1 a0.length (a0.flatMap encR27)), (7, .sc (.bool (!y_1)))], []⟩) (VC.sub (.c rfl <| .c rfl <| .n _) (.n _)) ?_
  refine AWP.cond (.tmp rfl) (fun hc => ?_) (fun hc => ?_)
  · have h := iteT hc h
    refine AWP.seq ?_
    refine AWP.region (.cons (.assign (lt1 rfl) (.const _ _ _)) <| ARun.nil _ _ _) ?_
    refine AWP.ret ?_
    obtain rfl := Option.some.inj h
    refine retJ (Res.vc (s' := ⟨[(2, .sc (.bool false))], []⟩) (VC.sub (.c rfl <| .n _) (.n _)) ?_)
    refine Res.drop (H := []) rfl ?_
    exact Res.of rfl (.cons (.tmp rfl) (.nil)) rfl rfl
  · have h := iteF hc h
    refine AWP.skip ?_
    refine AWP.seq ?_
    refine AWP.seq ?_
    refine AWP.region (.cons (.move (lt1 rfl) (.tmp rfl)) <| .cons (.lenRd (lt1 rfl) (.tmp rfl) Try.underlying22) <| .cons (.gtr (lt1 rfl) (.tmp rfl) (.const _ _ _)) <| ARun.nil _ _ _) ?_
    refine AWP.vc (s' := ⟨[(0, .rd β1 a0.length (a0.flatMap encR27)), (10, .sc (.bool (decide ((300 : Int) < (a0.length : Int)))))], []⟩) (VC.sub (.c rfl <| .c rfl <| .n _) (.n _)) ?_
    refine AWP.cond (.tmp rfl) (fun hc => ?_) (fun hc => ?_)
    · have h := iteT hc h
      refine AWP.seq ?_
      refine AWP.region (.cons (.assign (lt1 rfl) (.const _ _ _)) <| ARun.nil _ _ _) ?_
      refine AWP.ret ?_
      obtain rfl := Option.some.inj h
      refine retJ (Res.vc (s' := ⟨[(2, .sc (.bool true))], []⟩) (VC.sub (.c rfl <| .n _) (.n _)) ?_)
      refine Res.drop (H := []) rfl ?_
      exact Res.of rfl (.cons (.tmp rfl) (.nil)) rfl rfl
    · have h := iteF hc h
      refine AWP.skip ?_
      refine AWP.seq ?_
      obtain ⟨l1_2, hl1_2, h⟩ := bindS h
      refine AWP.region (.cons (.buildSlice (t := 1) (out := ([] : List R27).flatMap encR27) (lt1 rfl) (nm rfl) (.nil) Try.underlying22 zero28 el28 (by decide) (by decide) rfl (still_all encR27_still _)) <| .cons (.move (lt1 rfl) (.tmp rfl)) <| .cons (.app (enc := encR27) (lt1 rfl) (nm rfl) (.tmp rfl) (Src.rd (.tmp rfl) (flatMap_length encR27_len _) (one_all encR27_one _) (.inr (scal_all encR27_scal _))) Try.underlying22 ⟨_, Try.underlying22, by intro k hk; cases hk⟩ el28 rfl encR27_len rfl rfl (by decide) hl1_2) <| .cons (.assign (lt1 rfl) (.tmp rfl)) <| ARun.nil _ _ _) ?_
      refine AWP.vc (s' := ⟨[(0, .rd β1 a0.length (a0.flatMap encR27)), (3, .own 1 2 0 l1_2.length)], [(1, ⟨28, true, l1_2.flatMap encR27⟩)]⟩) (VC.sub (.c rfl <| .c rfl <| .n _) (.c rfl <| .n _)) ?_
      refine AWP.seq ?_
      obtain ⟨y_3, hy_3, h⟩ := bindS h
      refine AWP.region (.cons (.move (lt1 rfl) (.tmp rfl)) <| .cons (.call0 (bw := false) (lt1 rfl) (c11 (β1 := β1) n a0 hy_3) (.cons (.tmp rfl) (.ren rfl) (.nil)) rfl) <| .cons (.assign (lt1 rfl) (.tmp rfl)) <| ARun.nil _ _ _) ?_
      refine AWP.vc (s' := ⟨[(0, .rd β1 a0.length (a0.flatMap encR27)), (3, .own 1 2 0 l1_2.length), (4, .rd false y_3.length (y_3.flatMap encR27))], [(1, ⟨28, true, l1_2.flatMap encR27⟩)]⟩) (VC.sub (.c rfl <| .c rfl <| .c rfl <| .n _) (.c rfl <| .n _)) ?_
      refine AWP.seq ?_
      obtain ⟨y_4, hy_4, h⟩ := bindS h
      refine AWP.region (.cons (.move (lt1 rfl) (.tmp rfl)) <| .cons (.call (σ := sgT [(1, 2), (2, 3)]) (bw := true) (lt1 rfl) (c12 (β1 := true) n l1_2 hy_4) (.cons (.func _ _ _) (.ren rfl) (.cons (.tmp rfl) (.lendRow rfl rfl encR27_len rfl) (.nil))) (CallOk.mk' (.n) rfl)) <| .cons (.assign (lt1 rfl) (.tmp rfl)) <| ARun.nil _ _ _) ?_
      refine AWP.vc (s' := ⟨[(0, .rd β1 a0.length (a0.flatMap encR27)), (3, .own 1 2 0 l1_2.length), (4, .rd false y_3.length (y_3.flatMap encR27)), (5, .ptr 2 0)], [(3, ⟨69, true, y_4.l.flatMap encR68⟩), (2, ⟨67, false, [.clo (.func 13) [] [], .own 3 3 0 y_4.l.length, .sc (.int .i64 y_4.pushed)]⟩), (1, ⟨28, true, l1_2.flatMap encR27⟩)]⟩) (VC.sub (.c rfl <| .c rfl <| .c rfl <| .c rfl <| .n _) (.c rfl <| .c rfl <| .c rfl <| .n _)) ?_
      refine AWP.seq ?_
      obtain ⟨y_5, hy_5, h⟩ := bindS h
      obtain ⟨y_6, hy_6, h⟩ := bindS h
      obtain ⟨y_7, hy_7, h⟩ := bindS h
      refine AWP.join' (S := fun p_12 : Bool => ⟨[(2, .sc (.bool p_12))], []⟩) h (fun p_12 h => ?_) (fun k_13 h => ?_)
      · refine AWP.ret ?_
        obtain rfl := Option.some.inj h
        refine retJ (Res.vc (s' := ⟨[(2, .sc (.bool p_12))], []⟩) (VC.sub (.c rfl <| .n _) (.n _)) ?_)
        refine Res.drop (H := []) rfl ?_
        exact Res.of rfl (.cons (.tmp rfl) (.nil)) rfl rfl
      · rcases boolTF (y_6 && (decide (y_7 = (a0.length : Int)))) with hs_8 | hs_8
        · have h := iteT hs_8 h
          obtain ⟨y_9, hy_9, h⟩ := bindS h
          obtain ⟨y_10, hy_10, h⟩ := bindS h
          obtain ⟨y_11, hy_11, h⟩ := bindS h
          refine AWP.region (.cons (.move (lt1 rfl) (.tmp rfl)) <| .cons (.call0 (bw := true) (lt1 rfl) (c15 (β1 := true) n l1_2 hy_5) (.cons (.func _ _ _) (.ren rfl) (.cons (.tmp rfl) (.lendRow rfl rfl encR27_len rfl) (.nil))) rfl) <| .cons (.move (lt1 rfl) (.tmp rfl)) <| .cons (.call0 (bw := false) (lt1 rfl) (c14 (β1 := false) (β2 := false) n y_5 y_3 hy_6) (.cons (.tmp rfl) (.ren rfl) (.cons (.tmp rfl) (.ren rfl) (.nil))) rfl) <| .cons (.move (lt1 rfl) (.tmp rfl)) <| .guard (j := 4) (dj := 22) rfl (lt1 rfl) rfl (lt1 rfl) (fun hg => .move (lt1 rfl) (.tmp rfl)) <| .guard (j := 4) (dj := 22) rfl (lt1 rfl) rfl (lt1 rfl) (fun hg => .keep (bw := false) (AStep.call (σ := sgT [(1, 2), (2, 3)]) (bw := false) (lt1 rfl) (c16 n y_4.l y_4.pushed (gdB hy_7 hg)) (.cons (.gd hg (.tmp rfl)) (.ren rfl) (.nil)) (CallOk.mk' (.c rfl (.c rfl (.n))) rfl)) (CallOk.mk' (.c rfl (.c rfl (.n))) rfl) rfl rfl) <| .guard (j := 4) (dj := 22) rfl (lt1 rfl) rfl (lt1 rfl) (fun hg => .move (lt1 rfl) (.tmp rfl)) <| .guard (j := 4) (dj := 22) rfl (lt1 rfl) rfl (lt1 rfl) (fun hg => .lenRd (lt1 rfl) (.gd hg (.tmp rfl)) Try.underlying22) <| .guard (j := 4) (dj := 22) rfl (lt1 rfl) rfl (lt1 rfl) (fun hg => .eql (lt1 rfl) (.gd hg (.tmp rfl)) (.gd hg (.tmp rfl))) <| .cons (.pickAnd (lt1 rfl) (.tmp rfl) (.tmp rfl) (.const _ _ _)) <| .cons (.move (lt1 rfl) (.tmp rfl)) <| .guard (j := 11) (dj := 29) rfl (lt1 rfl) rfl (lt1 rfl) (fun hg => .move (lt1 rfl) (.tmp rfl)) <| .guardT (j := 11) (dj := 29) rfl (lt1 rfl) rfl hs_8 (.call (σ := sgT [(1, 2), (2, 3)]) (bw := false) (lt1 rfl) (c17 n y_4.l y_4.pushed hy_9) (.cons (.gd hs_8 (.tmp rfl)) (.ren rfl) (.nil)) (CallOk.mk' (.c rfl (.c rfl (.n))) rfl)) <| .guardT (j := 11) (dj := 29) rfl (lt1 rfl) rfl hs_8 (.move (lt1 rfl) (.tmp rfl)) <| .guardT (j := 11) (dj := 29) rfl (lt1 rfl) rfl hs_8 (.call0 (bw := false) (lt1 rfl) (c14 (β1 := false) (β2 := false) n y_9.1 y_3 hy_10) (.cons (.tmp rfl) (.ren rfl) (.cons (.tmp rfl) (.ren rfl) (.nil))) rfl) <| .cons (.pickT (lt1 rfl) (.tmp rfl) hs_8 (.tmp rfl)) <| .cons (.move (lt1 rfl) (.tmp rfl)) <| .guard (j := 17) (dj := 35) rfl (lt1 rfl) rfl (lt1 rfl) (fun hg => .move (lt1 rfl) (.tmp rfl)) <| .guard (j := 17) (dj := 35) rfl (lt1 rfl) rfl (lt1 rfl) (fun hg => .move (lt1 rfl) (.tmp rfl)) <| .guard (j := 17) (dj := 35) rfl (lt1 rfl) rfl (lt1 rfl) (fun hg => .call0 (bw := true) (lt1 rfl) (c14 (β1 := true) (β2 := β1) n l1_2 a0 (gdB hy_11 hg)) (.cons (.gd hg (.tmp rfl)) (.lendRow rfl rfl encR27_len rfl) (.cons (.gd hg (.tmp rfl)) (.ren rfl) (.nil))) rfl) <| .cons (.pickAnd (lt1 rfl) (.tmp rfl) (.tmp rfl) (.const _ _ _)) <| .cons (.assign (lt1 rfl) (.tmp rfl)) <| ARun.nil _ _ _) ?_
          exact endJ (y_10 && y_11) h (VC.sub (.c rfl <| .n _) (.n _))
        · have h := iteF hs_8 h
          refine AWP.region (.cons (.move (lt1 rfl) (.tmp rfl)) <| .cons (.call0 (bw := true) (lt1 rfl) (c15 (β1 := true) n l1_2 hy_5) (.cons (.func _ _ _) (.ren rfl) (.cons (.tmp rfl) (.lendRow rfl rfl encR27_len rfl) (.nil))) rfl) <| .cons (.move (lt1 rfl) (.tmp rfl)) <| .cons (.call0 (bw := false) (lt1 rfl) (c14 (β1 := false) (β2 := false) n y_5 y_3 hy_6) (.cons (.tmp rfl) (.ren rfl) (.cons (.tmp rfl) (.ren rfl) (.nil))) rfl) <| .cons (.move (lt1 rfl) (.tmp rfl)) <| .guard (j := 4) (dj := 22) rfl (lt1 rfl) rfl (lt1 rfl) (fun hg => .move (lt1 rfl) (.tmp rfl)) <| .guard (j := 4) (dj := 22) rfl (lt1 rfl) rfl (lt1 rfl) (fun hg => .keep (bw := false) (AStep.call (σ := sgT [(1, 2), (2, 3)]) (bw := false) (lt1 rfl) (c16 n y_4.l y_4.pushed (gdB hy_7 hg)) (.cons (.gd hg (.tmp rfl)) (.ren rfl) (.nil)) (CallOk.mk' (.c rfl (.c rfl (.n))) rfl)) (CallOk.mk' (.c rfl (.c rfl (.n))) rfl) rfl rfl) <| .guard (j := 4) (dj := 22) rfl (lt1 rfl) rfl (lt1 rfl) (fun hg => .move (lt1 rfl) (.tmp rfl)) <| .guard (j := 4) (dj := 22) rfl (lt1 rfl) rfl (lt1 rfl) (fun hg => .lenRd (lt1 rfl) (.gd hg (.tmp rfl)) Try.underlying22) <| .guard (j := 4) (dj := 22) rfl (lt1 rfl) rfl (lt1 rfl) (fun hg => .eql (lt1 rfl) (.gd hg (.tmp rfl)) (.gd hg (.tmp rfl))) <| .cons (.pickAnd (lt1 rfl) (.tmp rfl) (.tmp rfl) (.const _ _ _)) <| .cons (.move (lt1 rfl) (.tmp rfl)) <| .guard (j := 11) (dj := 29) rfl (lt1 rfl) rfl (lt1 rfl) (fun hg => .move (lt1 rfl) (.tmp rfl)) <| .guardF (j := 11) (dj := 29) rfl (lt1 rfl) rfl (lt1 rfl) hs_8 <| .guardF (j := 11) (dj := 29) rfl (lt1 rfl) rfl (lt1 rfl) hs_8 <| .guardF (j := 11) (dj := 29) rfl (lt1 rfl) rfl (lt1 rfl) hs_8 <| .cons (.pickF (lt1 rfl) (.tmp rfl) hs_8 (.const _ _ _)) <| .cons (.move (lt1 rfl) (.tmp rfl)) <| .guard (v := .any) (j := 17) (dj := 35) rfl (lt1 rfl) rfl (lt1 rfl) (fun hg => by cases hg) <| .guard (v := .any) (j := 17) (dj := 35) rfl (lt1 rfl) rfl (lt1 rfl) (fun hg => by cases hg) <| .guard (v := .any) (j := 17) (dj := 35) rfl (lt1 rfl) rfl (lt1 rfl) (fun hg => by cases hg) <| .cons (.pickF (lt1 rfl) (.tmp rfl) rfl (.const _ _ _)) <| .cons (.assign (lt1 rfl) (.tmp rfl)) <| ARun.nil _ _ _) ?_
          exact endJ false h (VC.sub (.c rfl <| .n _) (.n _))
end Go.AB
