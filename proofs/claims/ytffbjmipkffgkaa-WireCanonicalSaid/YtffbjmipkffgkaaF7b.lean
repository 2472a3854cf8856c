import Derived.Test.YtffbjmipkffgkaaProg
import Derived.Test.YtffbjmipkffgkaaF7a
import Derived.KernelRfl
set_option linter.unusedVariables false
namespace Go.AB
open Go Go.Proofs
theorem c76 {β1 : Bool} (n : Nat) (a0_b0_b0 : (List UInt8)) (a0_b0_b1 : Int) (a0_b0_b2 : Bool) (a1_b0 : Int) {r : ((List Int) × (List UInt8) × Int × Bool)} (h : m76 n a0_b0_b0 a0_b0_b1 a0_b0_b2 a1_b0 = some r) : Spec Try.prog 76 [1, 2, 3, 4] [.ptr 1 0, .ptr 3 0, .ptr 4 0] [(1, ⟨39, false, [.ptr 2 0]⟩), (2, ⟨82, false, [.rd β1 a0_b0_b0.length (a0_b0_b0.flatMap enc8), .sc (.int .i64 a0_b0_b1), .sc (.bool a0_b0_b2)]⟩), (3, ⟨3, false, [.sc (.int .i64 a1_b0)]⟩), (4, ⟨41, false, [.clo (.func 17) [.ptr 2 0] []]⟩)] (.rd false r.1.length (r.1.flatMap (encI .i64))) [(1, ⟨39, false, [.ptr 2 0]⟩), (2, ⟨82, false, [.rd β1 r.2.1.length (r.2.1.flatMap enc8), .sc (.int .i64 r.2.2.1), .sc (.bool r.2.2.2)]⟩), (3, ⟨3, false, [.sc (.int .i64 a1_b0)]⟩), (4, ⟨41, false, [.clo (.func 17) [.ptr 2 0] []]⟩)] := by
  refine Spec.of (fn := Try.f76) Try.func76 Try.ntmps76 rfl rfl (le1 rfl) (fun w0 Zs Zb T0 ι0 => ?_)
  unfold m76 at h
  refine AWP.seq ?_
  refine AWP.region (.cons (.assign (lt1 rfl) (.const _ _ _)) <| ARun.nil _ _ _) ?_
  refine AWP.vc (s' := ⟨[(0, .ptr 1 0), (1, .ptr 3 0), (2, .ptr 4 0)], [(1, ⟨39, false, [.ptr 2 0]⟩), (2, ⟨82, false, [.rd β1 a0_b0_b0.length (a0_b0_b0.flatMap enc8), .sc (.int .i64 a0_b0_b1), .sc (.bool a0_b0_b2)]⟩), (3, ⟨3, false, [.sc (.int .i64 a1_b0)]⟩), (4, ⟨41, false, [.clo (.func 17) [.ptr 2 0] []]⟩)]⟩) (VC.sub (.c rfl <| .c rfl <| .c rfl <| .n _) (.c rfl <| .c rfl <| .c rfl <| .c rfl <| .n _)) ?_
  refine AWP.seq ?_
  refine AWP.region (.cons (.assign (lt1 rfl) (.const _ _ _)) <| ARun.nil _ _ _) ?_
  refine AWP.vc (s' := ⟨[(0, .ptr 1 0), (1, .ptr 3 0), (2, .ptr 4 0), (4, .sc (.slice none 0 0))], [(1, ⟨39, false, [.ptr 2 0]⟩), (2, ⟨82, false, [.rd β1 a0_b0_b0.length (a0_b0_b0.flatMap enc8), .sc (.int .i64 a0_b0_b1), .sc (.bool a0_b0_b2)]⟩), (3, ⟨3, false, [.sc (.int .i64 a1_b0)]⟩), (4, ⟨41, false, [.clo (.func 17) [.ptr 2 0] []]⟩)]⟩) (VC.sub (.c rfl <| .c rfl <| .c rfl <| .c rfl <| .n _) (.c rfl <| .c rfl <| .c rfl <| .c rfl <| .n _)) ?_
  refine AWP.seq ?_
  refine AWP.seq ?_
  obtain ⟨y_1, hy_1, h⟩ := bindS h
  refine AWP.region (.cons (.loadP (lt1 rfl) (.tmp rfl) one39 rfl rfl rfl) <| .cons (.loadP (lt1 rfl) (.tmp rfl) one3 rfl rfl rfl) <| .cons (.call (σ := fun _ => 2) (bw := false) (lt1 rfl) (c25 (β1 := β1) n a0_b0_b0 a0_b0_b1 a0_b0_b2 (0 : Int) a1_b0 hy_1) (.cons (.tmp rfl) (.ren rfl) (.cons (.const _ _ _) (.ren rfl) (.cons (.tmp rfl) (.ren rfl) (.nil)))) (CallOk.mk' (.c rfl (.n)) rfl)) <| .cons (.assign (lt1 rfl) (.tmp rfl)) <| ARun.nil _ _ _) ?_
  refine AWP.vc (s' := ⟨[(0, .ptr 1 0), (2, .ptr 4 0), (4, .sc (.slice none 0 0)), (5, .sc (.int .i64 y_1.1))], [(2, ⟨82, false, [.rd β1 y_1.2.1.length (y_1.2.1.flatMap enc8), .sc (.int .i64 y_1.2.2.1), .sc (.bool y_1.2.2.2)]⟩), (1, ⟨39, false, [.ptr 2 0]⟩), (3, ⟨3, false, [.sc (.int .i64 a1_b0)]⟩), (4, ⟨41, false, [.clo (.func 17) [.ptr 2 0] []]⟩)]⟩) (VC.sub (.c rfl <| .c rfl <| .c rfl <| .c rfl <| .n _) (.c rfl <| .c rfl <| .c rfl <| .c rfl <| .n _)) ?_
  refine AWP.joinB' (S := fun p_15 : (List UInt8) × Int × Bool × (List Int) => ⟨[(4, .own 5 1 0 p_15.2.2.2.length)], [(1, ⟨39, false, [.ptr 2 0]⟩), (2, ⟨82, false, [.rd β1 p_15.1.length (p_15.1.flatMap enc8), .sc (.int .i64 p_15.2.1), .sc (.bool p_15.2.2.1)]⟩), (3, ⟨3, false, [.sc (.int .i64 a1_b0)]⟩), (4, ⟨41, false, [.clo (.func 17) [.ptr 2 0] []]⟩), (5, ⟨3, true, p_15.2.2.2.flatMap (encI .i64)⟩)]⟩) h (fun p_15 h => ?_) (fun k_16 h => ?_)
  · refine AWP.seq ?_
    refine AWP.region (.cons (.move (lt1 rfl) (.tmp rfl)) <| .cons (.assign (lt1 rfl) (.tmp rfl)) <| ARun.nil _ _ _) ?_
    refine AWP.ret ?_
    obtain rfl := Option.some.inj h
    refine retJ (Res.vc (s' := ⟨[(3, .rd false p_15.2.2.2.length (p_15.2.2.2.flatMap (encI .i64)))], [(1, ⟨39, false, [.ptr 2 0]⟩), (2, ⟨82, false, [.rd β1 p_15.1.length (p_15.1.flatMap enc8), .sc (.int .i64 p_15.2.1), .sc (.bool p_15.2.2.1)]⟩), (3, ⟨3, false, [.sc (.int .i64 a1_b0)]⟩), (4, ⟨41, false, [.clo (.func 17) [.ptr 2 0] []]⟩)]⟩) (VC.trans (VC.frz (d := 3) (t := 5) rfl rfl (encI_len .i64)) (VC.sub (.c rfl <| .n _) (.c rfl <| .c rfl <| .c rfl <| .c rfl <| .n _))) ?_)
    refine Res.sub (H := [(1, ⟨39, false, [.ptr 2 0]⟩), (2, ⟨82, false, [.rd β1 p_15.1.length (p_15.1.flatMap enc8), .sc (.int .i64 p_15.2.1), .sc (.bool p_15.2.2.1)]⟩), (3, ⟨3, false, [.sc (.int .i64 a1_b0)]⟩), (4, ⟨41, false, [.clo (.func 17) [.ptr 2 0] []]⟩)]) (.c rfl <| .c rfl <| .c rfl <| .c rfl <| .n _) ?_
    exact Res.of rfl (.cons (.tmp rfl) (.nil)) rfl rfl
  · refine AWP.vc (VC.nilOwn (d := 4) (t := 5) (sz := 1) (E := 3) rfl (nm rfl)) ?_
    refine AWP.vc (s' := ⟨[(0, .ptr 1 0), (2, .ptr 4 0), (4, .own 5 1 0 ([] : List Int).length), (5, .sc (.int .i64 y_1.1))], [(1, ⟨39, false, [.ptr 2 0]⟩), (2, ⟨82, false, [.rd β1 y_1.2.1.length (y_1.2.1.flatMap enc8), .sc (.int .i64 y_1.2.2.1), .sc (.bool y_1.2.2.2)]⟩), (3, ⟨3, false, [.sc (.int .i64 a1_b0)]⟩), (4, ⟨41, false, [.clo (.func 17) [.ptr 2 0] []]⟩), (5, ⟨3, true, ([] : List Int).flatMap (encI .i64)⟩)]⟩) (VC.sub (.c rfl <| .c rfl <| .c rfl <| .c rfl <| .n _) (.c rfl <| .c rfl <| .c rfl <| .c rfl <| .c rfl <| .n _)) ?_
    refine AWP.loopM (S := fun x_10 : Int × (List UInt8) × Int × Bool × (List Int) => ⟨[(0, .ptr 1 0), (2, .ptr 4 0), (4, .own 5 1 0 x_10.2.2.2.2.length), (5, .sc (.int .i64 x_10.1))], [(1, ⟨39, false, [.ptr 2 0]⟩), (2, ⟨82, false, [.rd β1 x_10.2.1.length (x_10.2.1.flatMap enc8), .sc (.int .i64 x_10.2.2.1), .sc (.bool x_10.2.2.2.1)]⟩), (3, ⟨3, false, [.sc (.int .i64 a1_b0)]⟩), (4, ⟨41, false, [.clo (.func 17) [.ptr 2 0] []]⟩), (5, ⟨3, true, x_10.2.2.2.2.flatMap (encI .i64)⟩)]⟩) (x := (y_1.1, y_1.2.1, y_1.2.2.1, y_1.2.2.2, ([] : List Int))) (fun nx_11 x_10 h => ?_) h
    unfold m76_L1 at h
    refine AWP.seq ?_
    refine AWP.seq ?_
    refine AWP.region (.cons (.move (lt1 rfl) (.tmp rfl)) <| .cons (.gtr (lt1 rfl) (.tmp rfl) (.const _ _ _)) <| .cons (.move (lt1 rfl) (.tmp rfl)) <| .guard (j := 2) (dj := 11) rfl (lt1 rfl) rfl (lt1 rfl) (fun hg => .loadP (lt1 rfl) (.tmp rfl) one39 rfl rfl rfl) <| .guard (j := 2) (dj := 11) rfl (lt1 rfl) rfl (lt1 rfl) (fun hg => .nilCheck (lt1 rfl) (.gd hg (.tmp rfl)) trivial) <| .guard (j := 2) (dj := 11) rfl (lt1 rfl) rfl (lt1 rfl) (fun hg => .fieldP (lt1 rfl) (.gd hg (.tmp rfl)) fld82_2) <| .guard (j := 2) (dj := 11) rfl (lt1 rfl) rfl (lt1 rfl) (fun hg => .loadP (lt1 rfl) (.gd hg (.tmp rfl)) one4 rfl rfl rfl) <| .guard (j := 2) (dj := 11) rfl (lt1 rfl) rfl (lt1 rfl) (fun hg => .not (lt1 rfl) (.gd hg (.tmp rfl))) <| .cons (.pickAnd (lt1 rfl) (.tmp rfl) (.tmp rfl) (.const _ _ _)) <| ARun.nil _ _ _) ?_
    refine AWP.vc (s' := ⟨[(0, .ptr 1 0), (2, .ptr 4 0), (4, .own 5 1 0 x_10.2.2.2.2.length), (5, .sc (.int .i64 x_10.1)), (17, .sc (.bool ((decide ((0 : Int) < x_10.1)) && (!x_10.2.2.2.1))))], [(1, ⟨39, false, [.ptr 2 0]⟩), (2, ⟨82, false, [.rd β1 x_10.2.1.length (x_10.2.1.flatMap enc8), .sc (.int .i64 x_10.2.2.1), .sc (.bool x_10.2.2.2.1)]⟩), (3, ⟨3, false, [.sc (.int .i64 a1_b0)]⟩), (4, ⟨41, false, [.clo (.func 17) [.ptr 2 0] []]⟩), (5, ⟨3, true, x_10.2.2.2.2.flatMap (encI .i64)⟩)]⟩) (VC.sub (.c rfl <| .c rfl <| .c rfl <| .c rfl <| .c rfl <| .n _) (.c rfl <| .c rfl <| .c rfl <| .c rfl <| .c rfl <| .n _)) ?_
    refine AWP.cond (.tmp rfl) (fun hc => ?_) (fun hc => ?_)
    · have h := iteT hc h
      refine AWP.skip ?_
      refine AWP.seq ?_
      refine AWP.block ?_
      obtain ⟨y_12, hy_12, h⟩ := bindS h
      obtain ⟨l5_13, hl5_13, h⟩ := bindS h
      refine AWP.region (.cons (.move (lt1 rfl) (.tmp rfl)) <| .cons (.loadP (lt1 rfl) (.tmp rfl) one41 rfl rfl rfl) <| .cons (.callV (us' := [.ptr 1 0]) (avs := []) (cs' := []) (σ := fun _ => 2) (bw := false) (lt1 rfl) (.tmp rfl) (c17 (β1 := β1) n x_10.2.1 x_10.2.2.1 x_10.2.2.2.1 hy_12) (.cons (.ren rfl) (.nil)) (.nil) (.nil) (CallOk.mk' (.c rfl (.n)) rfl) (fun _ h => by cases h)) <| .cons (.buildSlice (t := 6) (out := ([y_12.1] : List Int).flatMap (encI .i64)) (lt1 rfl) (nm rfl) (.cons (.tmp rfl) (by first | exact ⟨rfl, rfl⟩ | rfl) (.nil)) Try.underlying57 zero3 el3 (by decide) (by decide) rfl (still_all (encI_still .i64) _)) <| .cons (.app (enc := (encI .i64)) (lt1 rfl) (nm rfl) (.tmp rfl) (Src.own (.tmp rfl) rfl (lendAll (encI_len .i64) _) (flatMap_length (encI_len .i64) _) (one_all (encI_one .i64) _) (.inl rfl)) Try.underlying57 ⟨_, Try.underlying57, by intro k hk; cases hk⟩ el3 rfl (encI_len .i64) rfl rfl (by decide) hl5_13) <| .cons (.assign (lt1 rfl) (.tmp rfl)) <| ARun.nil _ _ _) ?_
      refine AWP.vc (s' := ⟨[(0, .ptr 1 0), (2, .ptr 4 0), (4, .own 5 1 0 l5_13.length), (5, .sc (.int .i64 x_10.1))], [(5, ⟨3, true, l5_13.flatMap (encI .i64)⟩), (2, ⟨82, false, [.rd β1 y_12.2.1.length (y_12.2.1.flatMap enc8), .sc (.int .i64 y_12.2.2.1), .sc (.bool y_12.2.2.2)]⟩), (1, ⟨39, false, [.ptr 2 0]⟩), (3, ⟨3, false, [.sc (.int .i64 a1_b0)]⟩), (4, ⟨41, false, [.clo (.func 17) [.ptr 2 0] []]⟩)]⟩) (VC.sub (.c rfl <| .c rfl <| .c rfl <| .c rfl <| .n _) (.c rfl <| .c rfl <| .c rfl <| .c rfl <| .c rfl <| .n _)) ?_
      obtain ⟨t5_14, ht5_14, h⟩ := letS h
      refine AWP.region (.cons (.move (lt1 rfl) (.tmp rfl)) <| .cons (.sub (lt1 rfl) (.tmp rfl) (.const _ _ _)) <| .cons (.assign (lt1 rfl) (.tmp rfl)) <| ARun.nil _ _ _) ?_
      exact endJ (t5_14, y_12.2.1, y_12.2.2.1, y_12.2.2.2, l5_13) h (by subst ht5_14; exact VC.sub (.c rfl <| .c rfl <| .c rfl <| .c rfl <| .n _) (.c rfl <| .c rfl <| .c rfl <| .c rfl <| .c rfl <| .n _))
    · have h := iteF hc h
      refine AWP.exit ?_
      exact endJ (x_10.2.1, x_10.2.2.1, x_10.2.2.2.1, x_10.2.2.2.2) h (VC.sub (.c rfl <| .n _) (.c rfl <| .c rfl <| .c rfl <| .c rfl <| .c rfl <| .n _))
theorem c75 {β1 : Bool} (n : Nat) (a0_b0 : (List UInt8)) (a0_b1 : Int) (a0_b2 : Bool) (a1_1_b0 : Int) {r : ((List Int) × (List UInt8) × Int × Bool)} (h : m75 n a0_b0 a0_b1 a0_b2 a1_1_b0 = some r) : Spec Try.prog 75 [1, 2, 3, 4] [.ptr 1 0, .clo (.func 76) [] [.ptr 2 0, .ptr 3 0, .ptr 4 0]] [(1, ⟨82, false, [.rd β1 a0_b0.length (a0_b0.flatMap enc8), .sc (.int .i64 a0_b1), .sc (.bool a0_b2)]⟩), (2, ⟨39, false, [.ptr 1 0]⟩), (3, ⟨3, false, [.sc (.int .i64 a1_1_b0)]⟩), (4, ⟨41, false, [.clo (.func 17) [.ptr 1 0] []]⟩)] (.rd false r.1.length (r.1.flatMap (encI .i64))) [(1, ⟨82, false, [.rd β1 r.2.1.length (r.2.1.flatMap enc8), .sc (.int .i64 r.2.2.1), .sc (.bool r.2.2.2)]⟩), (2, ⟨39, false, [.ptr 1 0]⟩), (3, ⟨3, false, [.sc (.int .i64 a1_1_b0)]⟩), (4, ⟨41, false, [.clo (.func 17) [.ptr 1 0] []]⟩)] := by
  refine Spec.of (fn := Try.f75) Try.func75 Try.ntmps75 rfl rfl (le1 rfl) (fun w0 Zs Zb T0 ι0 => ?_)
  unfold m75 at h
  refine AWP.seq ?_
  refine AWP.region (.cons (.assign (lt1 rfl) (.const _ _ _)) <| ARun.nil _ _ _) ?_
  refine AWP.vc (s' := ⟨[(0, .ptr 1 0), (1, .clo (.func 76) [] [.ptr 2 0, .ptr 3 0, .ptr 4 0])], [(1, ⟨82, false, [.rd β1 a0_b0.length (a0_b0.flatMap enc8), .sc (.int .i64 a0_b1), .sc (.bool a0_b2)]⟩), (2, ⟨39, false, [.ptr 1 0]⟩), (3, ⟨3, false, [.sc (.int .i64 a1_1_b0)]⟩), (4, ⟨41, false, [.clo (.func 17) [.ptr 1 0] []]⟩)]⟩) (VC.sub (.c rfl <| .c rfl <| .n _) (.c rfl <| .c rfl <| .c rfl <| .c rfl <| .n _)) ?_
  refine AWP.seq ?_
  refine AWP.region (.cons (.assign (lt1 rfl) (.const _ _ _)) <| ARun.nil _ _ _) ?_
  refine AWP.vc (s' := ⟨[(0, .ptr 1 0), (1, .clo (.func 76) [] [.ptr 2 0, .ptr 3 0, .ptr 4 0]), (5, .sc (.slice none 0 0))], [(1, ⟨82, false, [.rd β1 a0_b0.length (a0_b0.flatMap enc8), .sc (.int .i64 a0_b1), .sc (.bool a0_b2)]⟩), (2, ⟨39, false, [.ptr 1 0]⟩), (3, ⟨3, false, [.sc (.int .i64 a1_1_b0)]⟩), (4, ⟨41, false, [.clo (.func 17) [.ptr 1 0] []]⟩)]⟩) (VC.sub (.c rfl <| .c rfl <| .c rfl <| .n _) (.c rfl <| .c rfl <| .c rfl <| .c rfl <| .n _)) ?_
  refine AWP.seq ?_
  refine AWP.seq ?_
  refine AWP.region (.cons (.move (lt1 rfl) (.tmp rfl)) <| .cons (.ptrNil0 (lt1 rfl) (.tmp rfl) Try.underlying39) <| .cons (.move (lt1 rfl) (.tmp rfl)) <| .guardT (j := 2) (dj := 10) rfl (lt1 rfl) rfl rfl (.move (lt1 rfl) (.tmp rfl)) <| .guardT (j := 2) (dj := 10) rfl (lt1 rfl) rfl rfl (.nilCheck (lt1 rfl) (.tmp rfl) trivial) <| .guardT (j := 2) (dj := 10) rfl (lt1 rfl) rfl rfl (.fieldP (lt1 rfl) (.tmp rfl) fld82_2) <| .guardT (j := 2) (dj := 10) rfl (lt1 rfl) rfl rfl (.loadP (lt1 rfl) (.tmp rfl) one4 rfl rfl rfl) <| .cons (.pickF (lt1 rfl) (.tmp rfl) rfl (.tmp rfl)) <| ARun.nil _ _ _) ?_
  refine AWP.vc (s' := ⟨[(0, .ptr 1 0), (1, .clo (.func 76) [] [.ptr 2 0, .ptr 3 0, .ptr 4 0]), (5, .sc (.slice none 0 0)), (15, .sc (.bool a0_b2))], [(1, ⟨82, false, [.rd β1 a0_b0.length (a0_b0.flatMap enc8), .sc (.int .i64 a0_b1), .sc (.bool a0_b2)]⟩), (2, ⟨39, false, [.ptr 1 0]⟩), (3, ⟨3, false, [.sc (.int .i64 a1_1_b0)]⟩), (4, ⟨41, false, [.clo (.func 17) [.ptr 1 0] []]⟩)]⟩) (VC.sub (.c rfl <| .c rfl <| .c rfl <| .c rfl <| .n _) (.c rfl <| .c rfl <| .c rfl <| .c rfl <| .n _)) ?_
  refine AWP.cond (.tmp rfl) (fun hc => ?_) (fun hc => ?_)
  · have h := iteT hc h
    refine AWP.seq ?_
    refine AWP.region (.cons (.move (lt1 rfl) (.tmp rfl)) <| .cons (.assign (lt1 rfl) (.tmp rfl)) <| ARun.nil _ _ _) ?_
    refine AWP.ret ?_
    obtain rfl := Option.some.inj h
    refine retJ (Res.vc (s' := ⟨[(4, .rd false ([] : List Int).length (([] : List Int).flatMap (encI .i64)))], [(1, ⟨82, false, [.rd β1 a0_b0.length (a0_b0.flatMap enc8), .sc (.int .i64 a0_b1), .sc (.bool a0_b2)]⟩), (2, ⟨39, false, [.ptr 1 0]⟩), (3, ⟨3, false, [.sc (.int .i64 a1_1_b0)]⟩), (4, ⟨41, false, [.clo (.func 17) [.ptr 1 0] []]⟩)]⟩) (VC.trans (VC.nilRd (d := 4) false rfl) (VC.sub (.c rfl <| .n _) (.c rfl <| .c rfl <| .c rfl <| .c rfl <| .n _))) ?_)
    refine Res.sub (H := [(1, ⟨82, false, [.rd β1 a0_b0.length (a0_b0.flatMap enc8), .sc (.int .i64 a0_b1), .sc (.bool a0_b2)]⟩), (2, ⟨39, false, [.ptr 1 0]⟩), (3, ⟨3, false, [.sc (.int .i64 a1_1_b0)]⟩), (4, ⟨41, false, [.clo (.func 17) [.ptr 1 0] []]⟩)]) (.c rfl <| .c rfl <| .c rfl <| .c rfl <| .n _) ?_
    exact Res.of rfl (.cons (.tmp rfl) (.nil)) rfl rfl
  · have h := iteF hc h
    refine AWP.skip ?_
    refine AWP.seq ?_
    refine AWP.region (.cons (.move (lt1 rfl) (.tmp rfl)) <| .cons (.nilCheck (lt1 rfl) (.tmp rfl) trivial) <| .cons (.fieldP (lt1 rfl) (.tmp rfl) fld82_1) <| .cons (.loadP (lt1 rfl) (.tmp rfl) one3 rfl rfl rfl) <| .cons (.assign (lt1 rfl) (.tmp rfl)) <| ARun.nil _ _ _) ?_
    refine AWP.vc (s' := ⟨[(0, .ptr 1 0), (1, .clo (.func 76) [] [.ptr 2 0, .ptr 3 0, .ptr 4 0]), (5, .sc (.slice none 0 0)), (6, .sc (.int .i64 a0_b1))], [(1, ⟨82, false, [.rd β1 a0_b0.length (a0_b0.flatMap enc8), .sc (.int .i64 a0_b1), .sc (.bool a0_b2)]⟩), (2, ⟨39, false, [.ptr 1 0]⟩), (3, ⟨3, false, [.sc (.int .i64 a1_1_b0)]⟩), (4, ⟨41, false, [.clo (.func 17) [.ptr 1 0] []]⟩)]⟩) (VC.sub (.c rfl <| .c rfl <| .c rfl <| .c rfl <| .n _) (.c rfl <| .c rfl <| .c rfl <| .c rfl <| .n _)) ?_
    refine AWP.seq ?_
    obtain ⟨y_1, hy_1, h⟩ := bindS h
    refine AWP.region (.cons (.move (lt1 rfl) (.tmp rfl)) <| .cons (.callV (us' := []) (avs := []) (cs' := [.ptr 1 0, .ptr 3 0, .ptr 4 0]) (σ := sgT [(1, 2), (2, 1), (3, 3), (4, 4)]) (bw := false) (lt1 rfl) (.tmp rfl) (c76 (β1 := β1) n a0_b0 a0_b1 a0_b2 a1_1_b0 hy_1) (.nil) (.nil) (.cons (.ren rfl) (.cons (.ren rfl) (.cons (.ren rfl) (.nil)))) (CallOk.mk' (.c rfl (.c rfl (.c rfl (.c rfl (.n))))) rfl) (fun _ h => by cases h)) <| .cons (.assign (lt1 rfl) (.tmp rfl)) <| ARun.nil _ _ _) ?_
    refine AWP.vc (s' := ⟨[(0, .ptr 1 0), (5, .sc (.slice none 0 0)), (6, .sc (.int .i64 a0_b1)), (7, .rd false y_1.1.length (y_1.1.flatMap (encI .i64)))], [(2, ⟨39, false, [.ptr 1 0]⟩), (1, ⟨82, false, [.rd β1 y_1.2.1.length (y_1.2.1.flatMap enc8), .sc (.int .i64 y_1.2.2.1), .sc (.bool y_1.2.2.2)]⟩), (3, ⟨3, false, [.sc (.int .i64 a1_1_b0)]⟩), (4, ⟨41, false, [.clo (.func 17) [.ptr 1 0] []]⟩)]⟩) (VC.sub (.c rfl <| .c rfl <| .c rfl <| .c rfl <| .n _) (.c rfl <| .c rfl <| .c rfl <| .c rfl <| .n _)) ?_
    refine AWP.seq ?_
    refine AWP.seq ?_
    refine AWP.region (.cons (.move (lt1 rfl) (.tmp rfl)) <| .cons (.nilCheck (lt1 rfl) (.tmp rfl) trivial) <| .cons (.fieldP (lt1 rfl) (.tmp rfl) fld82_2) <| .cons (.loadP (lt1 rfl) (.tmp rfl) one4 rfl rfl rfl) <| ARun.nil _ _ _) ?_
    refine AWP.vc (s' := ⟨[(0, .ptr 1 0), (5, .sc (.slice none 0 0)), (6, .sc (.int .i64 a0_b1)), (7, .rd false y_1.1.length (y_1.1.flatMap (encI .i64))), (26, .sc (.bool y_1.2.2.2))], [(2, ⟨39, false, [.ptr 1 0]⟩), (1, ⟨82, false, [.rd β1 y_1.2.1.length (y_1.2.1.flatMap enc8), .sc (.int .i64 y_1.2.2.1), .sc (.bool y_1.2.2.2)]⟩), (3, ⟨3, false, [.sc (.int .i64 a1_1_b0)]⟩), (4, ⟨41, false, [.clo (.func 17) [.ptr 1 0] []]⟩)]⟩) (VC.sub (.c rfl <| .c rfl <| .c rfl <| .c rfl <| .c rfl <| .n _) (.c rfl <| .c rfl <| .c rfl <| .c rfl <| .n _)) ?_
    refine AWP.cond (.tmp rfl) (fun hc => ?_) (fun hc => ?_)
    · have h := iteT hc h
      refine AWP.seq ?_
      refine AWP.region (.cons (.move (lt1 rfl) (.tmp rfl)) <| .cons (.move (lt1 rfl) (.tmp rfl)) <| .cons (.nilCheck (lt1 rfl) (.tmp rfl) trivial) <| .cons (.fieldP (lt1 rfl) (.tmp rfl) fld82_1) <| .cons (.storeP (.tmp rfl) (.tmp rfl) sz3 rfl (lt1 rfl) rfl (by intro h; cases h) rfl) <| ARun.nil _ _ _) ?_
      refine AWP.vc (s' := ⟨[(5, .sc (.slice none 0 0))], [(2, ⟨39, false, [.ptr 1 0]⟩), (1, ⟨82, false, [.rd β1 y_1.2.1.length (y_1.2.1.flatMap enc8), .sc (.int .i64 a0_b1), .sc (.bool y_1.2.2.2)]⟩), (3, ⟨3, false, [.sc (.int .i64 a1_1_b0)]⟩), (4, ⟨41, false, [.clo (.func 17) [.ptr 1 0] []]⟩)]⟩) (VC.sub (.c rfl <| .n _) (.c rfl <| .c rfl <| .c rfl <| .c rfl <| .n _)) ?_
      refine AWP.seq ?_
      refine AWP.region (.cons (.move (lt1 rfl) (.tmp rfl)) <| .cons (.assign (lt1 rfl) (.tmp rfl)) <| ARun.nil _ _ _) ?_
      refine AWP.ret ?_
      obtain rfl := Option.some.inj h
      refine retJ (Res.vc (s' := ⟨[(4, .rd false ([] : List Int).length (([] : List Int).flatMap (encI .i64)))], [(1, ⟨82, false, [.rd β1 y_1.2.1.length (y_1.2.1.flatMap enc8), .sc (.int .i64 a0_b1), .sc (.bool y_1.2.2.2)]⟩), (2, ⟨39, false, [.ptr 1 0]⟩), (3, ⟨3, false, [.sc (.int .i64 a1_1_b0)]⟩), (4, ⟨41, false, [.clo (.func 17) [.ptr 1 0] []]⟩)]⟩) (VC.trans (VC.nilRd (d := 4) false rfl) (VC.sub (.c rfl <| .n _) (.c rfl <| .c rfl <| .c rfl <| .c rfl <| .n _))) ?_)
      refine Res.sub (H := [(1, ⟨82, false, [.rd β1 y_1.2.1.length (y_1.2.1.flatMap enc8), .sc (.int .i64 a0_b1), .sc (.bool y_1.2.2.2)]⟩), (2, ⟨39, false, [.ptr 1 0]⟩), (3, ⟨3, false, [.sc (.int .i64 a1_1_b0)]⟩), (4, ⟨41, false, [.clo (.func 17) [.ptr 1 0] []]⟩)]) (.c rfl <| .c rfl <| .c rfl <| .c rfl <| .n _) ?_
      exact Res.of rfl (.cons (.tmp rfl) (.nil)) rfl rfl
    · have h := iteF hc h
      refine AWP.skip ?_
      refine AWP.seq ?_
      refine AWP.region (.cons (.move (lt1 rfl) (.tmp rfl)) <| .cons (.assign (lt1 rfl) (.tmp rfl)) <| ARun.nil _ _ _) ?_
      refine AWP.ret ?_
      obtain rfl := Option.some.inj h
      refine retJ (Res.vc (s' := ⟨[(4, .rd false y_1.1.length (y_1.1.flatMap (encI .i64)))], [(1, ⟨82, false, [.rd β1 y_1.2.1.length (y_1.2.1.flatMap enc8), .sc (.int .i64 y_1.2.2.1), .sc (.bool y_1.2.2.2)]⟩), (2, ⟨39, false, [.ptr 1 0]⟩), (3, ⟨3, false, [.sc (.int .i64 a1_1_b0)]⟩), (4, ⟨41, false, [.clo (.func 17) [.ptr 1 0] []]⟩)]⟩) (VC.sub (.c rfl <| .n _) (.c rfl <| .c rfl <| .c rfl <| .c rfl <| .n _)) ?_)
      refine Res.sub (H := [(1, ⟨82, false, [.rd β1 y_1.2.1.length (y_1.2.1.flatMap enc8), .sc (.int .i64 y_1.2.2.1), .sc (.bool y_1.2.2.2)]⟩), (2, ⟨39, false, [.ptr 1 0]⟩), (3, ⟨3, false, [.sc (.int .i64 a1_1_b0)]⟩), (4, ⟨41, false, [.clo (.func 17) [.ptr 1 0] []]⟩)]) (.c rfl <| .c rfl <| .c rfl <| .c rfl <| .n _) ?_
      exact Res.of rfl (.cons (.tmp rfl) (.nil)) rfl rfl
theorem c65 {β1 : Bool} (n : Nat) (a0_b0 : (List UInt8)) (a0_b1 : Int) (a0_b2 : Bool) (a1 : Int) {r : ((List Int) × (List UInt8) × Int × Bool)} (h : m65 n a0_b0 a0_b1 a0_b2 a1 = some r) : Spec Try.prog 65 [1] [.ptr 1 0, .sc (.int .i64 a1), .clo (.func 17) [.ptr 1 0] []] [(1, ⟨82, false, [.rd β1 a0_b0.length (a0_b0.flatMap enc8), .sc (.int .i64 a0_b1), .sc (.bool a0_b2)]⟩)] (.rd false r.1.length (r.1.flatMap (encI .i64))) [(1, ⟨82, false, [.rd β1 r.2.1.length (r.2.1.flatMap enc8), .sc (.int .i64 r.2.2.1), .sc (.bool r.2.2.2)]⟩)] := by
  refine Spec.of (fn := Try.f65) Try.func65 Try.ntmps65 rfl rfl (le1 rfl) (fun w0 Zs Zb T0 ι0 => ?_)
  unfold m65 at h
  refine AWP.seq ?_
  refine AWP.region (.cons (.box (t := 2) (n := 1) (lt1 rfl) (nm rfl) (.tmp rfl) (by first | exact ⟨rfl, rfl⟩ | rfl) rfl) <| .cons (.box (t := 3) (n := 1) (lt1 rfl) (nm rfl) (.tmp rfl) (by first | exact ⟨rfl, rfl⟩ | rfl) rfl) <| .cons (.box (t := 4) (n := 1) (lt1 rfl) (nm rfl) (.tmp rfl) (by first | exact ⟨rfl, rfl⟩ | rfl) rfl) <| .cons (.assign (lt1 rfl) (.const _ _ _)) <| ARun.nil _ _ _) ?_
  refine AWP.vc (s' := ⟨[(3, .ptr 2 0), (4, .ptr 3 0), (5, .ptr 4 0)], [(4, ⟨41, false, [.clo (.func 17) [.ptr 1 0] []]⟩), (3, ⟨3, false, [.sc (.int .i64 a1)]⟩), (2, ⟨39, false, [.ptr 1 0]⟩), (1, ⟨82, false, [.rd β1 a0_b0.length (a0_b0.flatMap enc8), .sc (.int .i64 a0_b1), .sc (.bool a0_b2)]⟩)]⟩) (VC.sub (.c rfl <| .c rfl <| .c rfl <| .n _) (.c rfl <| .c rfl <| .c rfl <| .c rfl <| .n _)) ?_
  refine AWP.seq ?_
  obtain ⟨y_1, hy_1, h⟩ := bindS h
  refine AWP.region (.cons (.loadP (lt1 rfl) (.tmp rfl) one39 rfl rfl rfl) <| .cons (.makeFunc (lt1 rfl) (.nil) (.cons (.tmp rfl) (.cons (.tmp rfl) (.cons (.tmp rfl) (.nil))))) <| .cons (.call (σ := sgT [(1, 1), (2, 2), (3, 3), (4, 4)]) (bw := false) (lt1 rfl) (c75 (β1 := β1) n a0_b0 a0_b1 a0_b2 a1 hy_1) (.cons (.tmp rfl) (.ren rfl) (.cons (.tmp rfl) (.ren rfl) (.nil))) (CallOk.mk' (.c rfl (.c rfl (.c rfl (.c rfl (.n))))) rfl)) <| .cons (.assign (lt1 rfl) (.tmp rfl)) <| ARun.nil _ _ _) ?_
  refine AWP.ret ?_
  obtain rfl := Option.some.inj h
  refine retJ (Res.vc (s' := ⟨[(6, .rd false y_1.1.length (y_1.1.flatMap (encI .i64)))], [(1, ⟨82, false, [.rd β1 y_1.2.1.length (y_1.2.1.flatMap enc8), .sc (.int .i64 y_1.2.2.1), .sc (.bool y_1.2.2.2)]⟩)]⟩) (VC.sub (.c rfl <| .n _) (.c rfl <| .n _)) ?_)
  refine Res.sub (H := [(1, ⟨82, false, [.rd β1 y_1.2.1.length (y_1.2.1.flatMap enc8), .sc (.int .i64 y_1.2.2.1), .sc (.bool y_1.2.2.2)]⟩)]) (.c rfl <| .n _) ?_
  exact Res.of rfl (.cons (.tmp rfl) (.nil)) rfl rfl
theorem c28 {β1 : Bool} (n : Nat) (a0_b0 : (List UInt8)) (a0_b1 : Int) (a0_b2 : Bool) (a1 : Int) {r : ((List Int) × (List UInt8) × Int × Bool)} (h : m28 n a0_b0 a0_b1 a0_b2 a1 = some r) : Spec Try.prog 28 [1] [.ptr 1 0, .sc (.int .i64 a1)] [(1, ⟨82, false, [.rd β1 a0_b0.length (a0_b0.flatMap enc8), .sc (.int .i64 a0_b1), .sc (.bool a0_b2)]⟩)] (.rd false r.1.length (r.1.flatMap (encI .i64))) [(1, ⟨82, false, [.rd β1 r.2.1.length (r.2.1.flatMap enc8), .sc (.int .i64 r.2.2.1), .sc (.bool r.2.2.2)]⟩)] := by
  refine Spec.of (fn := Try.f28) Try.func28 Try.ntmps28 rfl rfl (le1 rfl) (fun w0 Zs Zb T0 ι0 => ?_)
  unfold m28 at h
  refine AWP.seq ?_
  refine AWP.region (.cons (.assign (lt1 rfl) (.const _ _ _)) <| ARun.nil _ _ _) ?_
  refine AWP.vc (s' := ⟨[(0, .ptr 1 0), (1, .sc (.int .i64 a1))], [(1, ⟨82, false, [.rd β1 a0_b0.length (a0_b0.flatMap enc8), .sc (.int .i64 a0_b1), .sc (.bool a0_b2)]⟩)]⟩) (VC.sub (.c rfl <| .c rfl <| .n _) (.c rfl <| .n _)) ?_
  refine AWP.seq ?_
  obtain ⟨y_1, hy_1, h⟩ := bindS h
  refine AWP.region (.cons (.move (lt1 rfl) (.tmp rfl)) <| .cons (.move (lt1 rfl) (.tmp rfl)) <| .cons (.move (lt1 rfl) (.tmp rfl)) <| .cons (.makeFunc (lt1 rfl) (.cons (.tmp rfl) (.nil)) (.nil)) <| .cons (.call (σ := fun _ => 1) (bw := false) (lt1 rfl) (c65 (β1 := β1) n a0_b0 a0_b1 a0_b2 a1 hy_1) (.cons (.tmp rfl) (.ren rfl) (.cons (.tmp rfl) (.ren rfl) (.cons (.tmp rfl) (.ren rfl) (.nil)))) (CallOk.mk' (.c rfl (.n)) rfl)) <| .cons (.assign (lt1 rfl) (.tmp rfl)) <| ARun.nil _ _ _) ?_
  refine AWP.ret ?_
  obtain rfl := Option.some.inj h
  refine retJ (Res.vc (s' := ⟨[(4, .rd false y_1.1.length (y_1.1.flatMap (encI .i64)))], [(1, ⟨82, false, [.rd β1 y_1.2.1.length (y_1.2.1.flatMap enc8), .sc (.int .i64 y_1.2.2.1), .sc (.bool y_1.2.2.2)]⟩)]⟩) (VC.sub (.c rfl <| .n _) (.c rfl <| .n _)) ?_)
  refine Res.sub (H := [(1, ⟨82, false, [.rd β1 y_1.2.1.length (y_1.2.1.flatMap enc8), .sc (.int .i64 y_1.2.2.1), .sc (.bool y_1.2.2.2)]⟩)]) (.c rfl <| .n _) ?_
  exact Res.of rfl (.cons (.tmp rfl) (.nil)) rfl rfl
theorem c32 {β1 : Bool} (n : Nat) (a1 : (List Int)) {r : (List UInt8)} (h : m32 n a1 = some r) : Spec Try.prog 32 [] [.sc (.slice none 0 0), .rd β1 a1.length (a1.flatMap (encI .i64))] [] (.rd false r.length (r.flatMap enc8)) [] := by
  refine Spec.of (fn := Try.f32) Try.func32 Try.ntmps32 rfl rfl (le1 rfl) (fun w0 Zs Zb T0 ι0 => ?_)
  unfold m32 at h
  refine AWP.seq ?_
  refine AWP.region (.cons (.assign (lt1 rfl) (.const _ _ _)) <| ARun.nil _ _ _) ?_
  refine AWP.vc (s' := ⟨[(0, .sc (.slice none 0 0)), (1, .rd β1 a1.length (a1.flatMap (encI .i64)))], []⟩) (VC.sub (.c rfl <| .c rfl <| .n _) (.n _)) ?_
  refine AWP.seq ?_
  obtain ⟨y_1, hy_1, h⟩ := bindS h
  refine AWP.region (.cons (.move (lt1 rfl) (.tmp rfl)) <| .cons (.move (lt1 rfl) (.tmp rfl)) <| .cons (.lenRd (lt1 rfl) (.tmp rfl) Try.underlying57) <| .cons (.call (σ := fun _ => 1) (bw := false) (lt1 rfl) (c12ox1 n (a1.length : Int) hy_1) (.cons (.tmp rfl) (.ren rfl) (.cons (.tmp rfl) (.ren rfl) (.nil))) (CallOk.mk' (.n) rfl)) <| .cons (.assign (lt1 rfl) (.tmp rfl)) <| ARun.nil _ _ _) ?_
  refine AWP.vc (s' := ⟨[(0, .own 1 1 0 y_1.length), (1, .rd β1 a1.length (a1.flatMap (encI .i64)))], [(1, ⟨5, true, y_1.flatMap enc8⟩)]⟩) (VC.sub (.c rfl <| .c rfl <| .n _) (.c rfl <| .n _)) ?_
  refine AWP.seq ?_
  refine AWP.seq ?_
  refine AWP.region (.cons (.move (lt1 rfl) (.tmp rfl)) <| .cons (.lenRd (lt1 rfl) (.tmp rfl) Try.underlying57) <| .cons (.move (lt1 rfl) (.const _ _ _)) <| ARun.nil _ _ _) ?_
  refine AWP.vc (s' := ⟨[(0, .own 1 1 0 y_1.length), (11, .rd β1 a1.length (a1.flatMap (encI .i64))), (12, .sc (.int .i64 (a1.length : Int))), (13, .sc (.int .i64 (0 : Int)))], [(1, ⟨5, true, y_1.flatMap enc8⟩)]⟩) (VC.sub (.c rfl <| .c rfl <| .c rfl <| .c rfl <| .n _) (.c rfl <| .n _)) ?_
  refine AWP.joinB' (S := fun p_15 : (List UInt8) => ⟨[(0, .own 1 1 0 p_15.length)], [(1, ⟨5, true, p_15.flatMap enc8⟩)]⟩) h (fun p_15 h => ?_) (fun k_16 h => ?_)
  · refine AWP.seq ?_
    refine AWP.region (.cons (.move (lt1 rfl) (.tmp rfl)) <| .cons (.assign (lt1 rfl) (.tmp rfl)) <| ARun.nil _ _ _) ?_
    refine AWP.ret ?_
    obtain rfl := Option.some.inj h
    refine retJ (Res.vc (s' := ⟨[(4, .rd false p_15.length (p_15.flatMap enc8))], []⟩) (VC.trans (VC.frz (d := 4) (t := 1) rfl rfl enc8_len) (VC.sub (.c rfl <| .n _) (.n _))) ?_)
    refine Res.drop (H := []) rfl ?_
    exact Res.of rfl (.cons (.tmp rfl) (.nil)) rfl rfl
  · refine AWP.vc (s' := ⟨[(0, .own 1 1 0 y_1.length), (11, .rd β1 a1.length (a1.flatMap (encI .i64))), (12, .sc (.int .i64 (a1.length : Int))), (13, .sc (.int .i64 (0 : Int)))], [(1, ⟨5, true, y_1.flatMap enc8⟩)]⟩) (VC.sub (.c rfl <| .c rfl <| .c rfl <| .c rfl <| .n _) (.c rfl <| .n _)) ?_
    refine AWP.loopM (S := fun x_10 : Int × (List UInt8) => ⟨[(0, .own 1 1 0 x_10.2.length), (11, .rd β1 a1.length (a1.flatMap (encI .i64))), (12, .sc (.int .i64 (a1.length : Int))), (13, .sc (.int .i64 x_10.1))], [(1, ⟨5, true, x_10.2.flatMap enc8⟩)]⟩) (x := ((0 : Int), y_1)) (fun nx_11 x_10 h => ?_) h
    unfold m32_L1 at h
    refine AWP.seq ?_
    refine AWP.region (.cons (.lss (lt1 rfl) (.tmp rfl) (.tmp rfl)) <| ARun.nil _ _ _) ?_
    refine AWP.vc (s' := ⟨[(0, .own 1 1 0 x_10.2.length), (11, .rd β1 a1.length (a1.flatMap (encI .i64))), (12, .sc (.int .i64 (a1.length : Int))), (13, .sc (.int .i64 x_10.1)), (14, .sc (.bool (decide (x_10.1 < (a1.length : Int)))))], [(1, ⟨5, true, x_10.2.flatMap enc8⟩)]⟩) (VC.sub (.c rfl <| .c rfl <| .c rfl <| .c rfl <| .c rfl <| .n _) (.c rfl <| .n _)) ?_
    refine AWP.seq ?_
    refine AWP.cond (.tmp rfl) (fun hc => ?_) (fun hc => ?_)
    · have h := iteT hc h
      refine AWP.skip ?_
      refine AWP.seq ?_
      refine AWP.block ?_
      refine AWP.seq ?_
      obtain ⟨y_12, hy_12, h⟩ := bindS h
      refine AWP.region (.cons (.indexRd (enc := (encI .i64)) (lt1 rfl) (.tmp rfl) (.tmp rfl) Try.underlying57 sz3 (encI_len .i64) rfl hy_12) <| .cons (.loadR (v := .sc (.int .i64 y_12)) (lt1 rfl) (.tmp rfl) one3 rfl) <| .cons (.assign (lt1 rfl) (.tmp rfl)) <| ARun.nil _ _ _) ?_
      refine AWP.vc (s' := ⟨[(0, .own 1 1 0 x_10.2.length), (11, .rd β1 a1.length (a1.flatMap (encI .i64))), (12, .sc (.int .i64 (a1.length : Int))), (13, .sc (.int .i64 x_10.1)), (6, .sc (.int .i64 y_12))], [(1, ⟨5, true, x_10.2.flatMap enc8⟩)]⟩) (VC.sub (.c rfl <| .c rfl <| .c rfl <| .c rfl <| .c rfl <| .n _) (.c rfl <| .n _)) ?_
      obtain ⟨y_13, hy_13, h⟩ := bindS h
      refine AWP.region (.cons (.move (lt1 rfl) (.tmp rfl)) <| .cons (.move (lt1 rfl) (.tmp rfl)) <| .cons (.call (σ := fun _ => 1) (bw := false) (lt1 rfl) (c12o n x_10.2 y_12 hy_13) (.cons (.tmp rfl) (.ren rfl) (.cons (.tmp rfl) (.ren rfl) (.nil))) (CallOk.mk' (.c rfl (.n)) rfl)) <| .cons (.assign (lt1 rfl) (.tmp rfl)) <| ARun.nil _ _ _) ?_
      refine AWP.vc (s' := ⟨[(0, .own 1 1 0 y_13.length), (11, .rd β1 a1.length (a1.flatMap (encI .i64))), (12, .sc (.int .i64 (a1.length : Int))), (13, .sc (.int .i64 x_10.1))], [(1, ⟨5, true, y_13.flatMap enc8⟩)]⟩) (VC.sub (.c rfl <| .c rfl <| .c rfl <| .c rfl <| .n _) (.c rfl <| .n _)) ?_
      obtain ⟨t13_14, ht13_14, h⟩ := letS h
      refine AWP.region (.cons (.add (lt1 rfl) (.tmp rfl) (.const _ _ _)) <| .cons (.move (lt1 rfl) (.tmp rfl)) <| ARun.nil _ _ _) ?_
      exact endJ (t13_14, y_13) h (by subst ht13_14; exact VC.sub (.c rfl <| .c rfl <| .c rfl <| .c rfl <| .n _) (.c rfl <| .n _))
    · have h := iteF hc h
      refine AWP.exit ?_
      exact endJ x_10.2 h (VC.sub (.c rfl <| .n _) (.c rfl <| .n _))
theorem c7 {β1 : Bool} (n : Nat) (a0 : (List UInt8)) {r : Bool} (h : m7 n a0 = some r) : Spec Try.prog 7 [] [.rd β1 a0.length (a0.flatMap enc8)] [] (.sc (.bool r)) [] := by
  refine Spec.of (fn := Try.f7) Try.func7 Try.ntmps7 rfl rfl (le1 rfl) (fun w0 Zs Zb T0 ι0 => ?_)
  unfold m7 at h
  refine AWP.seq ?_
  refine AWP.region (.cons (.assign (lt1 rfl) (.const _ _ _)) <| ARun.nil _ _ _) ?_
  refine AWP.vc (s' := ⟨[(0, .rd β1 a0.length (a0.flatMap enc8))], []⟩) (VC.sub (.c rfl <| .n _) (.n _)) ?_
  refine AWP.seq ?_
  refine AWP.seq ?_
  obtain ⟨y_1, hy_1, h⟩ := bindS h
  refine AWP.region (.cons (.call0 (bw := false) (lt1 rfl) (c9 n hy_1) (.nil) rfl) <| .cons (.not (lt1 rfl) (.tmp rfl)) <| ARun.nil _ _ _) ?_
  refine AWP.vc (s' := ⟨[(0, .rd β1 a0.length (a0.flatMap enc8)), (10, .sc (.bool (!y_1)))], []⟩) (VC.sub (.c rfl <| .c rfl <| .n _) (.n _)) ?_
  refine AWP.cond (.tmp rfl) (fun hc => ?_) (fun hc => ?_)
  · have h := iteT hc h
    refine AWP.seq ?_
    refine AWP.region (.cons (.assign (lt1 rfl) (.const _ _ _)) <| ARun.nil _ _ _) ?_
    refine AWP.ret ?_
    obtain rfl := Option.some.inj h
    refine retJ (Res.vc (s' := ⟨[(2, .sc (.bool false))], []⟩) (VC.sub (.c rfl <| .n _) (.n _)) ?_)
    refine Res.drop (H := []) rfl ?_
    exact Res.of rfl (.cons (.tmp rfl) (.nil)) rfl rfl
  · have h := iteF hc h
    refine AWP.skip ?_
    refine AWP.seq ?_
    refine AWP.seq ?_
    refine AWP.region (.cons (.move (lt1 rfl) (.tmp rfl)) <| .cons (.lenRd (lt1 rfl) (.tmp rfl) Try.underlying33) <| .cons (.gtr (lt1 rfl) (.tmp rfl) (.const _ _ _)) <| ARun.nil _ _ _) ?_
    refine AWP.vc (s' := ⟨[(0, .rd β1 a0.length (a0.flatMap enc8)), (13, .sc (.bool (decide ((900 : Int) < (a0.length : Int)))))], []⟩) (VC.sub (.c rfl <| .c rfl <| .n _) (.n _)) ?_
    refine AWP.cond (.tmp rfl) (fun hc => ?_) (fun hc => ?_)
    · have h := iteT hc h
      refine AWP.seq ?_
      refine AWP.region (.cons (.assign (lt1 rfl) (.const _ _ _)) <| ARun.nil _ _ _) ?_
      refine AWP.ret ?_
      obtain rfl := Option.some.inj h
      refine retJ (Res.vc (s' := ⟨[(2, .sc (.bool true))], []⟩) (VC.sub (.c rfl <| .n _) (.n _)) ?_)
      refine Res.drop (H := []) rfl ?_
      exact Res.of rfl (.cons (.tmp rfl) (.nil)) rfl rfl
    · have h := iteF hc h
      refine AWP.skip ?_
      refine AWP.seq ?_
      obtain ⟨y_2, hy_2, h⟩ := bindS h
      obtain ⟨y_3, hy_3, h⟩ := bindS h
      obtain ⟨y_4, hy_4, h⟩ := bindS h
      refine AWP.region (.cons (.move (lt1 rfl) (.tmp rfl)) <| .cons (.call (σ := fun _ => 1) (bw := false) (lt1 rfl) (c16 (β1 := β1) n a0 hy_2) (.cons (.tmp rfl) (.ren rfl) (.nil)) (CallOk.mk' (.n) rfl)) <| .cons (.move (lt1 rfl) (.tmp rfl)) <| .cons (.call (σ := fun _ => 2) (bw := false) (lt1 rfl) (c16 (β1 := β1) n a0 hy_3) (.cons (.tmp rfl) (.ren rfl) (.nil)) (CallOk.mk' (.n) rfl)) <| .cons (.move (lt1 rfl) (.tmp rfl)) <| .cons (.call (σ := fun _ => 3) (bw := false) (lt1 rfl) (c16 (β1 := β1) n a0 hy_4) (.cons (.tmp rfl) (.ren rfl) (.nil)) (CallOk.mk' (.n) rfl)) <| .cons (.assign (lt1 rfl) (.tmp rfl)) <| .cons (.assign (lt1 rfl) (.tmp rfl)) <| .cons (.assign (lt1 rfl) (.tmp rfl)) <| ARun.nil _ _ _) ?_
      refine AWP.vc (s' := ⟨[(0, .rd β1 a0.length (a0.flatMap enc8)), (3, .ptr 1 0), (4, .ptr 2 0), (5, .ptr 3 0)], [(3, ⟨82, false, [.rd false y_4.b.length (y_4.b.flatMap enc8), .sc (.int .i64 y_4.at_), .sc (.bool y_4.failed)]⟩), (2, ⟨82, false, [.rd false y_3.b.length (y_3.b.flatMap enc8), .sc (.int .i64 y_3.at_), .sc (.bool y_3.failed)]⟩), (1, ⟨82, false, [.rd false y_2.b.length (y_2.b.flatMap enc8), .sc (.int .i64 y_2.at_), .sc (.bool y_2.failed)]⟩)]⟩) (VC.sub (.c rfl <| .c rfl <| .c rfl <| .c rfl <| .n _) (.c rfl <| .c rfl <| .c rfl <| .n _)) ?_
      refine AWP.seq ?_
      obtain ⟨y_5, hy_5, h⟩ := bindS h
      obtain ⟨y_6, hy_6, h⟩ := bindS h
      obtain ⟨y_7, hy_7, h⟩ := bindS h
      refine AWP.region (.cons (.move (lt1 rfl) (.tmp rfl)) <| .cons (.call (σ := fun _ => 1) (bw := false) (lt1 rfl) (c20 (β1 := false) n y_2.b y_2.at_ y_2.failed hy_5) (.cons (.tmp rfl) (.ren rfl) (.nil)) (CallOk.mk' (.c rfl (.n)) rfl)) <| .cons (.move (lt1 rfl) (.tmp rfl)) <| .cons (.call (σ := fun _ => 2) (bw := false) (lt1 rfl) (c28 (β1 := false) n y_3.b y_3.at_ y_3.failed (900 : Int) hy_6) (.cons (.tmp rfl) (.ren rfl) (.cons (.const _ _ _) (.ren rfl) (.nil))) (CallOk.mk' (.c rfl (.n)) rfl)) <| .cons (.move (lt1 rfl) (.tmp rfl)) <| .cons (.call (σ := fun _ => 3) (bw := false) (lt1 rfl) (c19 (β1 := false) n y_4.b y_4.at_ y_4.failed (900 : Int) hy_7) (.cons (.tmp rfl) (.ren rfl) (.cons (.const _ _ _) (.ren rfl) (.nil))) (CallOk.mk' (.c rfl (.n)) rfl)) <| .cons (.alloc (t := 4) (k := ⟨28, false, [.sc (.slice none 0 0), .sc (.slice none 0 0)]⟩) (lt1 rfl) (nm rfl) zero28 rfl rfl) <| .cons (.storePA (.tmp rfl) (.tmp rfl) sz28 rfl rfl (le1 rfl) (one_lit rfl) (by intro h; cases h) rfl) <| .cons (.assign (lt1 rfl) (.tmp rfl)) <| .cons (.assign (lt1 rfl) (.tmp rfl)) <| ARun.nil _ _ _) ?_
      refine AWP.vc (s' := ⟨[(0, .rd β1 a0.length (a0.flatMap enc8)), (3, .ptr 1 0), (4, .ptr 2 0), (5, .ptr 3 0), (6, .ptr 4 0), (7, .rd false y_6.1.length (y_6.1.flatMap (encI .i64))), (8, .sc (.string (mkS y_7.1)))], [(4, ⟨28, false, [.rd false y_5.1.Outer.length (y_5.1.Outer.flatMap encR59), .rd false y_5.1.Holes.length (y_5.1.Holes.flatMap encL59)]⟩), (3, ⟨82, false, [.rd false y_7.2.1.length (y_7.2.1.flatMap enc8), .sc (.int .i64 y_7.2.2.1), .sc (.bool y_7.2.2.2)]⟩), (2, ⟨82, false, [.rd false y_6.2.1.length (y_6.2.1.flatMap enc8), .sc (.int .i64 y_6.2.2.1), .sc (.bool y_6.2.2.2)]⟩), (1, ⟨82, false, [.rd false y_5.2.1.length (y_5.2.1.flatMap enc8), .sc (.int .i64 y_5.2.2.1), .sc (.bool y_5.2.2.2)]⟩)]⟩) (VC.sub (.c rfl <| .c rfl <| .c rfl <| .c rfl <| .c rfl <| .c rfl <| .c rfl <| .n _) (.c rfl <| .c rfl <| .c rfl <| .c rfl <| .n _)) ?_
      refine AWP.seq ?_
      refine AWP.seq ?_
      obtain ⟨y_8, hy_8, h⟩ := bindS h
      obtain ⟨y_9, hy_9, h⟩ := bindS h
      obtain ⟨y_10, hy_10, h⟩ := bindS h
      refine AWP.region (.cons (.move (lt1 rfl) (.tmp rfl)) <| .cons (.keep (bw := false) (AStep.call (σ := fun _ => 1) (bw := false) (lt1 rfl) (c18 (β1 := false) n y_5.2.1 y_5.2.2.1 y_5.2.2.2 hy_8) (.cons (.tmp rfl) (.ren rfl) (.nil)) (CallOk.mk' (.c rfl (.n)) rfl)) (CallOk.mk' (.c rfl (.n)) rfl) rfl rfl) <| .cons (.eql (lt1 rfl) (.tmp rfl) (.const _ _ _)) <| .cons (.move (lt1 rfl) (.tmp rfl)) <| .guard (j := 3) (dj := 29) rfl (lt1 rfl) rfl (lt1 rfl) (fun hg => .loadPA (lt1 rfl) (.tmp rfl) agg28 rfl rfl rfl rfl) <| .guard (j := 3) (dj := 29) rfl (lt1 rfl) rfl (lt1 rfl) (fun hg => .call0 (bw := false) (lt1 rfl) (c14 (β1 := false) (β2 := false) n (R27.mk y_5.1.Outer y_5.1.Holes) (gdB hy_9 hg)) (.cons (.const _ _ _) (.ren rfl) (.cons (.gd hg (.tmp rfl)) (.ren rfl) (.nil))) rfl) <| .guard (j := 3) (dj := 29) rfl (lt1 rfl) rfl (lt1 rfl) (fun hg => .move (lt1 rfl) (.tmp rfl)) <| .guard (j := 3) (dj := 29) rfl (lt1 rfl) rfl (lt1 rfl) (fun hg => .call0 (bw := false) (lt1 rfl) (c11 (β1 := false) (β2 := β1) n y_9 a0 (gdB hy_10 hg)) (.cons (.gd hg (.tmp rfl)) (.ren rfl) (.cons (.gd hg (.tmp rfl)) (.ren rfl) (.nil))) rfl) <| .guard (j := 3) (dj := 29) rfl (lt1 rfl) rfl (lt1 rfl) (fun hg => .not (lt1 rfl) (.gd hg (.tmp rfl))) <| .cons (.pickAnd (lt1 rfl) (.tmp rfl) (.tmp rfl) (.const _ _ _)) <| ARun.nil _ _ _) ?_
      refine AWP.vc (s' := ⟨[(0, .rd β1 a0.length (a0.flatMap enc8)), (4, .ptr 2 0), (5, .ptr 3 0), (7, .rd false y_6.1.length (y_6.1.flatMap (encI .i64))), (8, .sc (.string (mkS y_7.1))), (35, .sc (.bool ((decide (y_8 = (0 : Int))) && (!y_10))))], [(3, ⟨82, false, [.rd false y_7.2.1.length (y_7.2.1.flatMap enc8), .sc (.int .i64 y_7.2.2.1), .sc (.bool y_7.2.2.2)]⟩), (2, ⟨82, false, [.rd false y_6.2.1.length (y_6.2.1.flatMap enc8), .sc (.int .i64 y_6.2.2.1), .sc (.bool y_6.2.2.2)]⟩)]⟩) (VC.sub (.c rfl <| .c rfl <| .c rfl <| .c rfl <| .c rfl <| .c rfl <| .n _) (.c rfl <| .c rfl <| .n _)) ?_
      refine AWP.cond (.tmp rfl) (fun hc => ?_) (fun hc => ?_)
      · have h := iteT hc h
        refine AWP.seq ?_
        refine AWP.region (.cons (.assign (lt1 rfl) (.const _ _ _)) <| ARun.nil _ _ _) ?_
        refine AWP.ret ?_
        obtain rfl := Option.some.inj h
        refine retJ (Res.vc (s' := ⟨[(2, .sc (.bool false))], []⟩) (VC.sub (.c rfl <| .n _) (.n _)) ?_)
        refine Res.drop (H := []) rfl ?_
        exact Res.of rfl (.cons (.tmp rfl) (.nil)) rfl rfl
      · have h := iteF hc h
        refine AWP.skip ?_
        refine AWP.seq ?_
        obtain ⟨y_11, hy_11, h⟩ := bindS h
        obtain ⟨y_12, hy_12, h⟩ := bindS h
        obtain ⟨y_13, hy_13, h⟩ := bindS h
        obtain ⟨y_14, hy_14, h⟩ := bindS h
        obtain ⟨y_15, hy_15, h⟩ := bindS h
        obtain ⟨y_16, hy_16, h⟩ := bindS h
        refine AWP.region (.cons (.move (lt1 rfl) (.tmp rfl)) <| .cons (.keep (bw := false) (AStep.call (σ := fun _ => 2) (bw := false) (lt1 rfl) (c18 (β1 := false) n y_6.2.1 y_6.2.2.1 y_6.2.2.2 hy_11) (.cons (.tmp rfl) (.ren rfl) (.nil)) (CallOk.mk' (.c rfl (.n)) rfl)) (CallOk.mk' (.c rfl (.n)) rfl) rfl rfl) <| .cons (.neq (lt1 rfl) (.tmp rfl) (.const _ _ _)) <| .cons (.move (lt1 rfl) (.tmp rfl)) <| .guard (j := 3) (dj := 39) rfl (lt1 rfl) rfl (lt1 rfl) (fun hg => .move (lt1 rfl) (.tmp rfl)) <| .guard (j := 3) (dj := 39) rfl (lt1 rfl) rfl (lt1 rfl) (fun hg => .call0 (bw := false) (lt1 rfl) (c32 (β1 := false) n y_6.1 (gdB hy_12 hg)) (.cons (.const _ _ _) (.ren rfl) (.cons (.gd hg (.tmp rfl)) (.ren rfl) (.nil))) rfl) <| .guard (j := 3) (dj := 39) rfl (lt1 rfl) rfl (lt1 rfl) (fun hg => .move (lt1 rfl) (.tmp rfl)) <| .guard (j := 3) (dj := 39) rfl (lt1 rfl) rfl (lt1 rfl) (fun hg => .call0 (bw := false) (lt1 rfl) (c11 (β1 := false) (β2 := β1) n y_12 a0 (gdB hy_13 hg)) (.cons (.gd hg (.tmp rfl)) (.ren rfl) (.cons (.gd hg (.tmp rfl)) (.ren rfl) (.nil))) rfl) <| .cons (.pickOr (lt1 rfl) (.tmp rfl) (.const _ _ _) (.tmp rfl)) <| .cons (.move (lt1 rfl) (.tmp rfl)) <| .guard (j := 9) (dj := 45) rfl (lt1 rfl) rfl (lt1 rfl) (fun hg => .move (lt1 rfl) (.tmp rfl)) <| .guard (j := 9) (dj := 45) rfl (lt1 rfl) rfl (lt1 rfl) (fun hg => .keep (bw := false) (AStep.call (σ := fun _ => 3) (bw := false) (lt1 rfl) (c18 (β1 := false) n y_7.2.1 y_7.2.2.1 y_7.2.2.2 (gdB hy_14 hg)) (.cons (.gd hg (.tmp rfl)) (.ren rfl) (.nil)) (CallOk.mk' (.c rfl (.n)) rfl)) (CallOk.mk' (.c rfl (.n)) rfl) rfl rfl) <| .guard (j := 9) (dj := 45) rfl (lt1 rfl) rfl (lt1 rfl) (fun hg => .neq (lt1 rfl) (.gd hg (.tmp rfl)) (.const _ _ _)) <| .guard (j := 9) (dj := 45) rfl (lt1 rfl) rfl (lt1 rfl) (fun hg => .move (lt1 rfl) (.gd hg (.tmp rfl))) <| .guard2 (j := 13) (dj := 49) rfl (lt1 rfl) rfl (lt1 rfl) (fun hg => .move (lt1 rfl) (.tmp rfl)) <| .guard2 (j := 13) (dj := 49) rfl (lt1 rfl) rfl (lt1 rfl) (fun hg => .call0 (bw := false) (lt1 rfl) (c13 n y_7.1 (gdB hy_15 hg)) (.cons (.const _ _ _) (.ren rfl) (.cons (.gd hg (.tmp rfl)) (.ren rfl) (.nil))) rfl) <| .guard2 (j := 13) (dj := 49) rfl (lt1 rfl) rfl (lt1 rfl) (fun hg => .move (lt1 rfl) (.tmp rfl)) <| .guard2 (j := 13) (dj := 49) rfl (lt1 rfl) rfl (lt1 rfl) (fun hg => .call0 (bw := false) (lt1 rfl) (c11 (β1 := false) (β2 := β1) n y_15 a0 (gdB hy_16 hg)) (.cons (.gd hg (.tmp rfl)) (.ren rfl) (.cons (.gd hg (.tmp rfl)) (.ren rfl) (.nil))) rfl) <| .guard (j := 9) (dj := 45) rfl (lt1 rfl) rfl (lt1 rfl) (fun hg => .pickOr (lt1 rfl) (.gd hg (.tmp rfl)) (.const _ _ _) (.gdAnd hg (.tmp rfl))) <| .cons (.pickAnd (lt1 rfl) (.tmp rfl) (.tmp rfl) (.const _ _ _)) <| .cons (.assign (lt1 rfl) (.tmp rfl)) <| ARun.nil _ _ _) ?_
        refine AWP.ret ?_
        obtain rfl := Option.some.inj h
        refine retJ (Res.vc (s' := ⟨[(2, .sc (.bool (((!decide (y_11 = (0 : Int))) || y_13) && ((!decide (y_14 = (0 : Int))) || y_16))))], []⟩) (VC.sub (.c rfl <| .n _) (.n _)) ?_)
        refine Res.drop (H := []) rfl ?_
        exact Res.of rfl (.cons (.tmp rfl) (.nil)) rfl rfl
end Go.AB
