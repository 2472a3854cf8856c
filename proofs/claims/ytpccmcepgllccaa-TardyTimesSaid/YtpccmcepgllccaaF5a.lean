import Derived.Test.YtpccmcepgllccaaProg
import Derived.Test.YtpccmcepgllccaaF4a
import Derived.KernelRfl
set_option linter.unusedVariables false
set_option maxRecDepth 20000
namespace Go.AB
open Go Go.Proofs
theorem c22 {β1 : Bool} {β2 : Bool} (n : Nat) (a0 : (List R38)) (a1 : (List Int)) {r : ((List Int) × Int)} (h : m22 n a0 a1 = some r) : Spec Try.prog 22 [] [.rd β1 a0.length (a0.flatMap encR38), .rd β2 a1.length (a1.flatMap (encI .i64))] [] (.tup [.rd false r.1.length (r.1.flatMap (encI .i64)), .sc (.int .i64 r.2)]) [] := by
  refine Spec.of (fn := Try.f22) Try.func22 Try.ntmps22 rfl rfl (le1 rfl) (fun w0 Zs Zb T0 ι0 => ?_)
  unfold m22 at h
  refine AWP.seq ?_
  refine AWP.region (.cons (.assign (lt1 rfl) (.const _ _ _)) <| .cons (.assign (lt1 rfl) (.const _ _ _)) <| ARun.nil _ _ _) ?_
  refine AWP.vc (s' := ⟨[(0, .rd β1 a0.length (a0.flatMap encR38)), (1, .rd β2 a1.length (a1.flatMap (encI .i64)))], []⟩) (VC.sub (.c rfl <| .c rfl <| .n _) (.n _)) ?_
  refine AWP.seq ?_
  refine AWP.seq ?_
  obtain ⟨y_1, hy_1, h⟩ := bindS h
  refine AWP.region (.cons (.move (lt1 rfl) (.tmp rfl)) <| .cons (.move (lt1 rfl) (.tmp rfl)) <| .cons (.call0 (bw := false) (lt1 rfl) (c44 (β1 := β1) (β2 := β2) n a0 a1 hy_1) (.cons (.tmp rfl) (.ren rfl) (.cons (.tmp rfl) (.ren rfl) (.nil))) rfl) <| .cons (.assign (lt1 rfl) (.tmp rfl)) <| ARun.nil _ _ _) ?_
  refine AWP.vc (s' := ⟨[(0, .rd β1 a0.length (a0.flatMap encR38)), (1, .rd β2 a1.length (a1.flatMap (encI .i64))), (6, .sc (.int .i64 y_1))], []⟩) (VC.sub (.c rfl <| .c rfl <| .c rfl <| .n _) (.n _)) ?_
  refine AWP.seq ?_
  refine AWP.region (.cons (.move (lt1 rfl) (.tmp rfl)) <| .cons (.neq (lt1 rfl) (.tmp rfl) (.const _ _ _)) <| ARun.nil _ _ _) ?_
  refine AWP.vc (s' := ⟨[(0, .rd β1 a0.length (a0.flatMap encR38)), (1, .rd β2 a1.length (a1.flatMap (encI .i64))), (6, .sc (.int .i64 y_1)), (11, .sc (.bool (!decide (y_1 = (0 : Int)))))], []⟩) (VC.sub (.c rfl <| .c rfl <| .c rfl <| .c rfl <| .n _) (.n _)) ?_
  refine AWP.cond (.tmp rfl) (fun hc => ?_) (fun hc => ?_)
  · have h := iteT hc h
    refine AWP.seq ?_
    refine AWP.region (.cons (.move (lt1 rfl) (.tmp rfl)) <| .cons (.assign (lt1 rfl) (.const _ _ _)) <| .cons (.assign (lt1 rfl) (.tmp rfl)) <| ARun.nil _ _ _) ?_
    refine AWP.ret ?_
    obtain rfl := Option.some.inj h
    refine retJ (Res.vc (s' := ⟨[(4, .rd false ([] : List Int).length (([] : List Int).flatMap (encI .i64))), (5, .sc (.int .i64 y_1))], []⟩) (VC.trans (VC.nilRd (d := 4) false rfl) (VC.sub (.c rfl <| .c rfl <| .n _) (.n _))) ?_)
    refine Res.drop (H := []) rfl ?_
    exact Res.of rfl (.cons (.tmp rfl) (.cons (.tmp rfl) (.nil))) rfl rfl
  · have h := iteF hc h
    refine AWP.skip ?_
    refine AWP.seq ?_
    obtain ⟨y_2, hy_2, h⟩ := bindS h
    refine AWP.region (.cons (.move (lt1 rfl) (.tmp rfl)) <| .cons (.move (lt1 rfl) (.tmp rfl)) <| .cons (.call0 (bw := false) (lt1 rfl) (c45 (β1 := β1) (β2 := β2) n a0 a1 hy_2) (.cons (.tmp rfl) (.ren rfl) (.cons (.tmp rfl) (.ren rfl) (.nil))) rfl) <| .cons (.assign (lt1 rfl) (.tmp rfl)) <| .cons (.assign (lt1 rfl) (.const _ _ _)) <| ARun.nil _ _ _) ?_
    refine AWP.ret ?_
    obtain rfl := Option.some.inj h
    refine retJ (Res.vc (s' := ⟨[(4, .rd false y_2.length (y_2.flatMap (encI .i64))), (5, .sc (.int .i64 (0 : Int)))], []⟩) (VC.sub (.c rfl <| .c rfl <| .n _) (.n _)) ?_)
    refine Res.drop (H := []) rfl ?_
    exact Res.of rfl (.cons (.tmp rfl) (.cons (.tmp rfl) (.nil))) rfl rfl
theorem c24 {β1 : Bool} {β2 : Bool} (n : Nat) (a0 : (List R38)) (a1 : (List Int)) {r : (Int × Int)} (h : m24 n a0 a1 = some r) : Spec Try.prog 24 [] [.rd β1 a0.length (a0.flatMap encR38), .rd β2 a1.length (a1.flatMap (encI .i64))] [] (.tup [.sc (.int .i64 r.1), .sc (.int .i64 r.2)]) [] := by
  refine Spec.of (fn := Try.f24) Try.func24 Try.ntmps24 rfl rfl (le1 rfl) (fun w0 Zs Zb T0 ι0 => ?_)
  unfold m24 at h
  refine AWP.seq ?_
  refine AWP.region (.cons (.assign (lt1 rfl) (.const _ _ _)) <| .cons (.assign (lt1 rfl) (.const _ _ _)) <| ARun.nil _ _ _) ?_
  refine AWP.vc (s' := ⟨[(0, .rd β1 a0.length (a0.flatMap encR38)), (1, .rd β2 a1.length (a1.flatMap (encI .i64)))], []⟩) (VC.sub (.c rfl <| .c rfl <| .n _) (.n _)) ?_
  refine AWP.seq ?_
  refine AWP.seq ?_
  obtain ⟨y_1, hy_1, h⟩ := bindS h
  refine AWP.region (.cons (.move (lt1 rfl) (.tmp rfl)) <| .cons (.move (lt1 rfl) (.tmp rfl)) <| .cons (.call0 (bw := false) (lt1 rfl) (c44 (β1 := β1) (β2 := β2) n a0 a1 hy_1) (.cons (.tmp rfl) (.ren rfl) (.cons (.tmp rfl) (.ren rfl) (.nil))) rfl) <| .cons (.assign (lt1 rfl) (.tmp rfl)) <| ARun.nil _ _ _) ?_
  refine AWP.vc (s' := ⟨[(0, .rd β1 a0.length (a0.flatMap encR38)), (1, .rd β2 a1.length (a1.flatMap (encI .i64))), (6, .sc (.int .i64 y_1))], []⟩) (VC.sub (.c rfl <| .c rfl <| .c rfl <| .n _) (.n _)) ?_
  refine AWP.seq ?_
  refine AWP.region (.cons (.move (lt1 rfl) (.tmp rfl)) <| .cons (.neq (lt1 rfl) (.tmp rfl) (.const _ _ _)) <| ARun.nil _ _ _) ?_
  refine AWP.vc (s' := ⟨[(0, .rd β1 a0.length (a0.flatMap encR38)), (1, .rd β2 a1.length (a1.flatMap (encI .i64))), (6, .sc (.int .i64 y_1)), (11, .sc (.bool (!decide (y_1 = (0 : Int)))))], []⟩) (VC.sub (.c rfl <| .c rfl <| .c rfl <| .c rfl <| .n _) (.n _)) ?_
  refine AWP.cond (.tmp rfl) (fun hc => ?_) (fun hc => ?_)
  · have h := iteT hc h
    refine AWP.seq ?_
    refine AWP.region (.cons (.move (lt1 rfl) (.tmp rfl)) <| .cons (.assign (lt1 rfl) (.const _ _ _)) <| .cons (.assign (lt1 rfl) (.tmp rfl)) <| ARun.nil _ _ _) ?_
    refine AWP.ret ?_
    obtain rfl := Option.some.inj h
    refine retJ (Res.vc (s' := ⟨[(4, .sc (.int .i64 (0 : Int))), (5, .sc (.int .i64 y_1))], []⟩) (VC.sub (.c rfl <| .c rfl <| .n _) (.n _)) ?_)
    refine Res.drop (H := []) rfl ?_
    exact Res.of rfl (.cons (.tmp rfl) (.cons (.tmp rfl) (.nil))) rfl rfl
  · have h := iteF hc h
    refine AWP.skip ?_
    refine AWP.seq ?_
    obtain ⟨y_2, hy_2, h⟩ := bindS h
    refine AWP.region (.cons (.move (lt1 rfl) (.tmp rfl)) <| .cons (.move (lt1 rfl) (.tmp rfl)) <| .cons (.call0 (bw := false) (lt1 rfl) (c46 (β1 := β1) (β2 := β2) n a0 a1 true hy_2) (.cons (.tmp rfl) (.ren rfl) (.cons (.tmp rfl) (.ren rfl) (.cons (.const _ _ _) (.ren rfl) (.nil)))) rfl) <| .cons (.assign (lt1 rfl) (.tmp rfl)) <| .cons (.assign (lt1 rfl) (.const _ _ _)) <| ARun.nil _ _ _) ?_
    refine AWP.ret ?_
    obtain rfl := Option.some.inj h
    refine retJ (Res.vc (s' := ⟨[(4, .sc (.int .i64 y_2)), (5, .sc (.int .i64 (0 : Int)))], []⟩) (VC.sub (.c rfl <| .c rfl <| .n _) (.n _)) ?_)
    refine Res.drop (H := []) rfl ?_
    exact Res.of rfl (.cons (.tmp rfl) (.cons (.tmp rfl) (.nil))) rfl rfl
theorem c5 {β1 : Bool} {β2 : Bool} (n : Nat) (a0 : (List R38)) (a1 : (List Int)) {r : Bool} (h : m5 n a0 a1 = some r) : Spec Try.prog 5 [] [.rd β1 a0.length (a0.flatMap encR38), .rd β2 a1.length (a1.flatMap (encI .i64))] [] (.sc (.bool r)) [] := by
  refine Spec.of (fn := Try.f5) Try.func5 Try.ntmps5 rfl rfl (le1 rfl) (fun w0 Zs Zb T0 ι0 => ?_)
  unfold m5 at h
  refine AWP.seq ?_
  refine AWP.region (.cons (.assign (lt1 rfl) (.const _ _ _)) <| ARun.nil _ _ _) ?_
  refine AWP.vc (s' := ⟨[(0, .rd β1 a0.length (a0.flatMap encR38)), (1, .rd β2 a1.length (a1.flatMap (encI .i64)))], []⟩) (VC.sub (.c rfl <| .c rfl <| .n _) (.n _)) ?_
  refine AWP.seq ?_
  refine AWP.seq ?_
  obtain ⟨y_1, hy_1, h⟩ := bindS h
  obtain ⟨y_2, hy_2, h⟩ := bindS h
  refine AWP.region (.cons (.call0 (bw := false) (lt1 rfl) (c10 n hy_1) (.nil) rfl) <| .cons (.not (lt1 rfl) (.tmp rfl)) <| .cons (.move (lt1 rfl) (.tmp rfl)) <| .guard (j := 2) (dj := 20) rfl (lt1 rfl) rfl (lt1 rfl) (fun hg => .move (lt1 rfl) (.tmp rfl)) <| .guard (j := 2) (dj := 20) rfl (lt1 rfl) rfl (lt1 rfl) (fun hg => .call0 (bw := false) (lt1 rfl) (c11 (β1 := β1) n a0 (gdB hy_2 hg)) (.cons (.gd hg (.tmp rfl)) (.ren rfl) (.nil)) rfl) <| .guard (j := 2) (dj := 20) rfl (lt1 rfl) rfl (lt1 rfl) (fun hg => .not (lt1 rfl) (.gd hg (.tmp rfl))) <| .cons (.pickOr (lt1 rfl) (.tmp rfl) (.const _ _ _) (.tmp rfl)) <| .cons (.move (lt1 rfl) (.tmp rfl)) <| .guard (j := 7) (dj := 25) rfl (lt1 rfl) rfl (lt1 rfl) (fun hg => .move (lt1 rfl) (.tmp rfl)) <| .guard (j := 7) (dj := 25) rfl (lt1 rfl) rfl (lt1 rfl) (fun hg => .lenRd (lt1 rfl) (.gd hg (.tmp rfl)) Try.underlying26) <| .guard (j := 7) (dj := 25) rfl (lt1 rfl) rfl (lt1 rfl) (fun hg => .gtr (lt1 rfl) (.gd hg (.tmp rfl)) (.const _ _ _)) <| .cons (.pickOr (lt1 rfl) (.tmp rfl) (.const _ _ _) (.tmp rfl)) <| ARun.nil _ _ _) ?_
  refine AWP.vc (s' := ⟨[(0, .rd β1 a0.length (a0.flatMap encR38)), (1, .rd β2 a1.length (a1.flatMap (encI .i64))), (29, .sc (.bool (((!y_1) || (!y_2)) || (decide ((20 : Int) < (a1.length : Int))))))], []⟩) (VC.sub (.c rfl <| .c rfl <| .c rfl <| .n _) (.n _)) ?_
  refine AWP.cond (.tmp rfl) (fun hc => ?_) (fun hc => ?_)
  · have h := iteT hc h
    refine AWP.seq ?_
    obtain ⟨y_3, hy_3, h⟩ := bindS h
    refine AWP.region (.cons (.call0 (bw := false) (lt1 rfl) (c10 n hy_3) (.nil) rfl) <| .cons (.assign (lt1 rfl) (.tmp rfl)) <| ARun.nil _ _ _) ?_
    refine AWP.ret ?_
    obtain rfl := Option.some.inj h
    refine retJ (Res.vc (s' := ⟨[(4, .sc (.bool y_3))], []⟩) (VC.sub (.c rfl <| .n _) (.n _)) ?_)
    refine Res.drop (H := []) rfl ?_
    exact Res.of rfl (.cons (.tmp rfl) (.nil)) rfl rfl
  · have h := iteF hc h
    refine AWP.skip ?_
    refine AWP.seq ?_
    obtain ⟨y_4, hy_4, h⟩ := bindS h
    refine AWP.region (.cons (.move (lt1 rfl) (.tmp rfl)) <| .cons (.call0 (bw := false) (lt1 rfl) (c13 (β1 := β1) n a0 hy_4) (.cons (.tmp rfl) (.ren rfl) (.nil)) rfl) <| .cons (.assign (lt1 rfl) (.tmp rfl)) <| ARun.nil _ _ _) ?_
    refine AWP.vc (s' := ⟨[(0, .rd β1 a0.length (a0.flatMap encR38)), (1, .rd β2 a1.length (a1.flatMap (encI .i64))), (5, .rd false y_4.length (y_4.flatMap encR38))], []⟩) (VC.sub (.c rfl <| .c rfl <| .c rfl <| .n _) (.n _)) ?_
    refine AWP.seq ?_
    obtain ⟨y_5, hy_5, h⟩ := bindS h
    refine AWP.region (.cons (.move (lt1 rfl) (.tmp rfl)) <| .cons (.move (lt1 rfl) (.tmp rfl)) <| .cons (.call0 (bw := false) (lt1 rfl) (c22 (β1 := false) (β2 := β2) n y_4 a1 hy_5) (.cons (.tmp rfl) (.ren rfl) (.cons (.tmp rfl) (.ren rfl) (.nil))) rfl) <| .cons (.move (lt1 rfl) (.tmp rfl)) <| .cons (.extract (lt1 rfl) (.tmp rfl) rfl) <| .cons (.extract (lt1 rfl) (.tmp rfl) rfl) <| .cons (.assign (lt1 rfl) (.tmp rfl)) <| .cons (.assign (lt1 rfl) (.tmp rfl)) <| ARun.nil _ _ _) ?_
    refine AWP.vc (s' := ⟨[(0, .rd β1 a0.length (a0.flatMap encR38)), (1, .rd β2 a1.length (a1.flatMap (encI .i64))), (5, .rd false y_4.length (y_4.flatMap encR38)), (6, .rd false y_5.1.length (y_5.1.flatMap (encI .i64))), (7, .sc (.int .i64 y_5.2))], []⟩) (VC.sub (.c rfl <| .c rfl <| .c rfl <| .c rfl <| .c rfl <| .n _) (.n _)) ?_
    refine AWP.seq ?_
    obtain ⟨y_6, hy_6, h⟩ := bindS h
    refine AWP.region (.cons (.move (lt1 rfl) (.tmp rfl)) <| .cons (.move (lt1 rfl) (.tmp rfl)) <| .cons (.call0 (bw := false) (lt1 rfl) (c23 (β1 := β1) (β2 := β2) n a0 a1 hy_6) (.cons (.tmp rfl) (.ren rfl) (.cons (.tmp rfl) (.ren rfl) (.nil))) rfl) <| .cons (.move (lt1 rfl) (.tmp rfl)) <| .cons (.extract (lt1 rfl) (.tmp rfl) rfl) <| .cons (.extract (lt1 rfl) (.tmp rfl) rfl) <| .cons (.assign (lt1 rfl) (.tmp rfl)) <| .cons (.assign (lt1 rfl) (.tmp rfl)) <| ARun.nil _ _ _) ?_
    refine AWP.vc (s' := ⟨[(0, .rd β1 a0.length (a0.flatMap encR38)), (1, .rd β2 a1.length (a1.flatMap (encI .i64))), (5, .rd false y_4.length (y_4.flatMap encR38)), (6, .rd false y_5.1.length (y_5.1.flatMap (encI .i64))), (7, .sc (.int .i64 y_5.2)), (8, .rd false y_6.1.length (y_6.1.flatMap (encI .i64))), (9, .sc (.int .i64 y_6.2))], []⟩) (VC.sub (.c rfl <| .c rfl <| .c rfl <| .c rfl <| .c rfl <| .c rfl <| .c rfl <| .n _) (.n _)) ?_
    refine AWP.seq ?_
    obtain ⟨y_7, hy_7, h⟩ := bindS h
    refine AWP.region (.cons (.move (lt1 rfl) (.tmp rfl)) <| .cons (.move (lt1 rfl) (.tmp rfl)) <| .cons (.call0 (bw := false) (lt1 rfl) (c24 (β1 := false) (β2 := β2) n y_4 a1 hy_7) (.cons (.tmp rfl) (.ren rfl) (.cons (.tmp rfl) (.ren rfl) (.nil))) rfl) <| .cons (.move (lt1 rfl) (.tmp rfl)) <| .cons (.extract (lt1 rfl) (.tmp rfl) rfl) <| .cons (.extract (lt1 rfl) (.tmp rfl) rfl) <| .cons (.assign (lt1 rfl) (.tmp rfl)) <| .cons (.assign (lt1 rfl) (.tmp rfl)) <| ARun.nil _ _ _) ?_
    refine AWP.vc (s' := ⟨[(0, .rd β1 a0.length (a0.flatMap encR38)), (1, .rd β2 a1.length (a1.flatMap (encI .i64))), (5, .rd false y_4.length (y_4.flatMap encR38)), (6, .rd false y_5.1.length (y_5.1.flatMap (encI .i64))), (7, .sc (.int .i64 y_5.2)), (8, .rd false y_6.1.length (y_6.1.flatMap (encI .i64))), (9, .sc (.int .i64 y_6.2)), (10, .sc (.int .i64 y_7.1)), (11, .sc (.int .i64 y_7.2))], []⟩) (VC.sub (.c rfl <| .c rfl <| .c rfl <| .c rfl <| .c rfl <| .c rfl <| .c rfl <| .c rfl <| .c rfl <| .n _) (.n _)) ?_
    refine AWP.seq ?_
    obtain ⟨y_8, hy_8, h⟩ := bindS h
    refine AWP.region (.cons (.move (lt1 rfl) (.tmp rfl)) <| .cons (.move (lt1 rfl) (.tmp rfl)) <| .cons (.call0 (bw := false) (lt1 rfl) (c25 (β1 := β1) (β2 := β2) n a0 a1 hy_8) (.cons (.tmp rfl) (.ren rfl) (.cons (.tmp rfl) (.ren rfl) (.nil))) rfl) <| .cons (.move (lt1 rfl) (.tmp rfl)) <| .cons (.extract (lt1 rfl) (.tmp rfl) rfl) <| .cons (.extract (lt1 rfl) (.tmp rfl) rfl) <| .cons (.assign (lt1 rfl) (.tmp rfl)) <| .cons (.assign (lt1 rfl) (.tmp rfl)) <| ARun.nil _ _ _) ?_
    refine AWP.vc (s' := ⟨[(0, .rd β1 a0.length (a0.flatMap encR38)), (1, .rd β2 a1.length (a1.flatMap (encI .i64))), (5, .rd false y_4.length (y_4.flatMap encR38)), (6, .rd false y_5.1.length (y_5.1.flatMap (encI .i64))), (7, .sc (.int .i64 y_5.2)), (8, .rd false y_6.1.length (y_6.1.flatMap (encI .i64))), (9, .sc (.int .i64 y_6.2)), (10, .sc (.int .i64 y_7.1)), (11, .sc (.int .i64 y_7.2)), (12, .sc (.int .i64 y_8.1)), (13, .sc (.int .i64 y_8.2))], []⟩) (VC.sub (.c rfl <| .c rfl <| .c rfl <| .c rfl <| .c rfl <| .c rfl <| .c rfl <| .c rfl <| .c rfl <| .c rfl <| .c rfl <| .n _) (.n _)) ?_
    refine AWP.seq ?_
    obtain ⟨y_9, hy_9, h⟩ := bindS h
    refine AWP.region (.cons (.move (lt1 rfl) (.tmp rfl)) <| .cons (.move (lt1 rfl) (.tmp rfl)) <| .cons (.call0 (bw := false) (lt1 rfl) (c26 (β1 := false) (β2 := β2) n y_4 a1 hy_9) (.cons (.tmp rfl) (.ren rfl) (.cons (.tmp rfl) (.ren rfl) (.nil))) rfl) <| .cons (.move (lt1 rfl) (.tmp rfl)) <| .cons (.extract (lt1 rfl) (.tmp rfl) rfl) <| .cons (.extract (lt1 rfl) (.tmp rfl) rfl) <| .cons (.assign (lt1 rfl) (.tmp rfl)) <| .cons (.assign (lt1 rfl) (.tmp rfl)) <| ARun.nil _ _ _) ?_
    refine AWP.vc (s' := ⟨[(0, .rd β1 a0.length (a0.flatMap encR38)), (1, .rd β2 a1.length (a1.flatMap (encI .i64))), (5, .rd false y_4.length (y_4.flatMap encR38)), (6, .rd false y_5.1.length (y_5.1.flatMap (encI .i64))), (7, .sc (.int .i64 y_5.2)), (8, .rd false y_6.1.length (y_6.1.flatMap (encI .i64))), (9, .sc (.int .i64 y_6.2)), (10, .sc (.int .i64 y_7.1)), (11, .sc (.int .i64 y_7.2)), (12, .sc (.int .i64 y_8.1)), (13, .sc (.int .i64 y_8.2)), (14, .sc (.int .i64 y_9.1)), (15, .sc (.int .i64 y_9.2))], []⟩) (VC.sub (.c rfl <| .c rfl <| .c rfl <| .c rfl <| .c rfl <| .c rfl <| .c rfl <| .c rfl <| .c rfl <| .c rfl <| .c rfl <| .c rfl <| .c rfl <| .n _) (.n _)) ?_
    refine AWP.seq ?_
    obtain ⟨y_10, hy_10, h⟩ := bindS h
    refine AWP.region (.cons (.move (lt1 rfl) (.tmp rfl)) <| .cons (.move (lt1 rfl) (.tmp rfl)) <| .cons (.call0 (bw := false) (lt1 rfl) (c27 (β1 := β1) (β2 := β2) n a0 a1 hy_10) (.cons (.tmp rfl) (.ren rfl) (.cons (.tmp rfl) (.ren rfl) (.nil))) rfl) <| .cons (.move (lt1 rfl) (.tmp rfl)) <| .cons (.extract (lt1 rfl) (.tmp rfl) rfl) <| .cons (.extract (lt1 rfl) (.tmp rfl) rfl) <| .cons (.assign (lt1 rfl) (.tmp rfl)) <| .cons (.assign (lt1 rfl) (.tmp rfl)) <| ARun.nil _ _ _) ?_
    refine AWP.vc (s' := ⟨[(0, .rd β1 a0.length (a0.flatMap encR38)), (5, .rd false y_4.length (y_4.flatMap encR38)), (6, .rd false y_5.1.length (y_5.1.flatMap (encI .i64))), (7, .sc (.int .i64 y_5.2)), (8, .rd false y_6.1.length (y_6.1.flatMap (encI .i64))), (9, .sc (.int .i64 y_6.2)), (10, .sc (.int .i64 y_7.1)), (11, .sc (.int .i64 y_7.2)), (12, .sc (.int .i64 y_8.1)), (13, .sc (.int .i64 y_8.2)), (14, .sc (.int .i64 y_9.1)), (15, .sc (.int .i64 y_9.2)), (16, .sc (.int .i64 y_10.1)), (17, .sc (.int .i64 y_10.2))], []⟩) (VC.sub (.c rfl <| .c rfl <| .c rfl <| .c rfl <| .c rfl <| .c rfl <| .c rfl <| .c rfl <| .c rfl <| .c rfl <| .c rfl <| .c rfl <| .c rfl <| .c rfl <| .n _) (.n _)) ?_
    refine AWP.seq ?_
    obtain ⟨y_11, hy_11, h⟩ := bindS h
    obtain ⟨y_12, hy_12, h⟩ := bindS h
    obtain ⟨y_13, hy_13, h⟩ := bindS h
    obtain ⟨t4_14, ht4_14, h⟩ := letS h
    refine AWP.region (.cons (.move (lt1 rfl) (.tmp rfl)) <| .cons (.call0 (bw := false) (lt1 rfl) (c28 (β1 := false) n y_4 hy_11) (.cons (.tmp rfl) (.ren rfl) (.nil)) rfl) <| .cons (.move (lt1 rfl) (.tmp rfl)) <| .cons (.call0 (bw := false) (lt1 rfl) (c14 (β1 := β1) n a0 hy_12) (.cons (.tmp rfl) (.ren rfl) (.nil)) rfl) <| .cons (.eqlB (lt1 rfl) (.tmp rfl) (.tmp rfl) Try.underlying4) <| .cons (.move (lt1 rfl) (.tmp rfl)) <| .guard (j := 5) (dj := 74) rfl (lt1 rfl) rfl (lt1 rfl) (fun hg => .move (lt1 rfl) (.tmp rfl)) <| .guard (j := 5) (dj := 74) rfl (lt1 rfl) rfl (lt1 rfl) (fun hg => .move (lt1 rfl) (.tmp rfl)) <| .guard (j := 5) (dj := 74) rfl (lt1 rfl) rfl (lt1 rfl) (fun hg => .call0 (bw := false) (lt1 rfl) (c19 (β1 := false) (β2 := false) n y_5.1 y_6.1 (gdB hy_13 hg)) (.cons (.gd hg (.tmp rfl)) (.ren rfl) (.cons (.gd hg (.tmp rfl)) (.ren rfl) (.nil))) rfl) <| .cons (.pickAnd (lt1 rfl) (.tmp rfl) (.tmp rfl) (.const _ _ _)) <| .cons (.move (lt1 rfl) (.tmp rfl)) <| .guard (j := 10) (dj := 79) rfl (lt1 rfl) rfl (lt1 rfl) (fun hg => .move (lt1 rfl) (.tmp rfl)) <| .guard (j := 10) (dj := 79) rfl (lt1 rfl) rfl (lt1 rfl) (fun hg => .move (lt1 rfl) (.tmp rfl)) <| .guard (j := 10) (dj := 79) rfl (lt1 rfl) rfl (lt1 rfl) (fun hg => .eql (lt1 rfl) (.gd hg (.tmp rfl)) (.gd hg (.tmp rfl))) <| .cons (.pickAnd (lt1 rfl) (.tmp rfl) (.tmp rfl) (.const _ _ _)) <| .cons (.move (lt1 rfl) (.tmp rfl)) <| .guard (j := 15) (dj := 84) rfl (lt1 rfl) rfl (lt1 rfl) (fun hg => .move (lt1 rfl) (.tmp rfl)) <| .guard (j := 15) (dj := 84) rfl (lt1 rfl) rfl (lt1 rfl) (fun hg => .move (lt1 rfl) (.tmp rfl)) <| .guard (j := 15) (dj := 84) rfl (lt1 rfl) rfl (lt1 rfl) (fun hg => .eql (lt1 rfl) (.gd hg (.tmp rfl)) (.gd hg (.tmp rfl))) <| .cons (.pickAnd (lt1 rfl) (.tmp rfl) (.tmp rfl) (.const _ _ _)) <| .cons (.move (lt1 rfl) (.tmp rfl)) <| .guard (j := 20) (dj := 89) rfl (lt1 rfl) rfl (lt1 rfl) (fun hg => .move (lt1 rfl) (.tmp rfl)) <| .guard (j := 20) (dj := 89) rfl (lt1 rfl) rfl (lt1 rfl) (fun hg => .move (lt1 rfl) (.tmp rfl)) <| .guard (j := 20) (dj := 89) rfl (lt1 rfl) rfl (lt1 rfl) (fun hg => .eql (lt1 rfl) (.gd hg (.tmp rfl)) (.gd hg (.tmp rfl))) <| .cons (.pickAnd (lt1 rfl) (.tmp rfl) (.tmp rfl) (.const _ _ _)) <| .cons (.move (lt1 rfl) (.tmp rfl)) <| .guard (j := 25) (dj := 94) rfl (lt1 rfl) rfl (lt1 rfl) (fun hg => .move (lt1 rfl) (.tmp rfl)) <| .guard (j := 25) (dj := 94) rfl (lt1 rfl) rfl (lt1 rfl) (fun hg => .move (lt1 rfl) (.tmp rfl)) <| .guard (j := 25) (dj := 94) rfl (lt1 rfl) rfl (lt1 rfl) (fun hg => .eql (lt1 rfl) (.gd hg (.tmp rfl)) (.gd hg (.tmp rfl))) <| .cons (.pickAnd (lt1 rfl) (.tmp rfl) (.tmp rfl) (.const _ _ _)) <| .cons (.move (lt1 rfl) (.tmp rfl)) <| .guard (j := 30) (dj := 99) rfl (lt1 rfl) rfl (lt1 rfl) (fun hg => .move (lt1 rfl) (.tmp rfl)) <| .guard (j := 30) (dj := 99) rfl (lt1 rfl) rfl (lt1 rfl) (fun hg => .move (lt1 rfl) (.tmp rfl)) <| .guard (j := 30) (dj := 99) rfl (lt1 rfl) rfl (lt1 rfl) (fun hg => .eql (lt1 rfl) (.gd hg (.tmp rfl)) (.gd hg (.tmp rfl))) <| .cons (.pickAnd (lt1 rfl) (.tmp rfl) (.tmp rfl) (.const _ _ _)) <| .cons (.assign (lt1 rfl) (.tmp rfl)) <| ARun.nil _ _ _) ?_
    refine AWP.ret ?_
    obtain rfl := Option.some.inj h
    refine retJ (Res.vc (s' := ⟨[(4, .sc (.bool t4_14))], []⟩) (by subst ht4_14; exact VC.sub (.c rfl <| .n _) (.n _)) ?_)
    refine Res.drop (H := []) rfl ?_
    exact Res.of rfl (.cons (.tmp rfl) (.nil)) rfl rfl
end Go.AB
