import Derived.Test.YtffbjmipkffgkaaProg
import Derived.Test.YtffbjmipkffgkaaF4a
import Derived.KernelRfl
set_option linter.unusedVariables false
namespace Go.AB
open Go Go.Proofs
theorem c49 {β1 : Bool} (n : Nat) (a0_b0 : (List UInt8)) (a0_b1 : Int) (a0_b2 : Bool) (a1 : Int) {r : ((List (List R59)) × (List UInt8) × Int × Bool)} (h : m49 n a0_b0 a0_b1 a0_b2 a1 = some r) : Spec Try.prog 49 [1, 2] [.ptr 1 0, .sc (.int .i64 a1), .clo (.func 48) [] [.ptr 2 0]] [(1, ⟨82, false, [.rd β1 a0_b0.length (a0_b0.flatMap enc8), .sc (.int .i64 a0_b1), .sc (.bool a0_b2)]⟩), (2, ⟨39, false, [.ptr 1 0]⟩)] (.rd false r.1.length (r.1.flatMap encL59)) [(1, ⟨82, false, [.rd β1 r.2.1.length (r.2.1.flatMap enc8), .sc (.int .i64 r.2.2.1), .sc (.bool r.2.2.2)]⟩), (2, ⟨39, false, [.ptr 1 0]⟩)] := by
  refine Spec.of (fn := Try.f49) Try.func49 Try.ntmps49 rfl rfl (le1 rfl) (fun w0 Zs Zb T0 ι0 => ?_)
  unfold m49 at h
  refine AWP.seq ?_
  refine AWP.region (.cons (.box (t := 3) (n := 1) (lt1 rfl) (nm rfl) (.tmp rfl) (by first | exact ⟨rfl, rfl⟩ | rfl) rfl) <| .cons (.box (t := 4) (n := 1) (lt1 rfl) (nm rfl) (.tmp rfl) (by first | exact ⟨rfl, rfl⟩ | rfl) rfl) <| .cons (.box (t := 5) (n := 1) (lt1 rfl) (nm rfl) (.tmp rfl) (by first | exact ⟨rfl, rfl⟩ | rfl) rfl) <| .cons (.assign (lt1 rfl) (.const _ _ _)) <| ARun.nil _ _ _) ?_
  refine AWP.vc (s' := ⟨[(3, .ptr 3 0), (4, .ptr 4 0), (5, .ptr 5 0)], [(5, ⟨87, false, [.clo (.func 48) [] [.ptr 2 0]]⟩), (4, ⟨3, false, [.sc (.int .i64 a1)]⟩), (3, ⟨39, false, [.ptr 1 0]⟩), (1, ⟨82, false, [.rd β1 a0_b0.length (a0_b0.flatMap enc8), .sc (.int .i64 a0_b1), .sc (.bool a0_b2)]⟩), (2, ⟨39, false, [.ptr 1 0]⟩)]⟩) (VC.sub (.c rfl <| .c rfl <| .c rfl <| .n _) (.c rfl <| .c rfl <| .c rfl <| .c rfl <| .c rfl <| .n _)) ?_
  refine AWP.seq ?_
  obtain ⟨y_1, hy_1, h⟩ := bindS h
  refine AWP.region (.cons (.loadP (lt1 rfl) (.tmp rfl) one39 rfl rfl rfl) <| .cons (.makeFunc (lt1 rfl) (.nil) (.cons (.tmp rfl) (.cons (.tmp rfl) (.cons (.tmp rfl) (.nil))))) <| .cons (.call (σ := sgT [(1, 1), (2, 3), (3, 4), (4, 5), (5, 2)]) (bw := false) (lt1 rfl) (c71 (β1 := β1) n a0_b0 a0_b1 a0_b2 a1 hy_1) (.cons (.tmp rfl) (.ren rfl) (.cons (.tmp rfl) (.ren rfl) (.nil))) (CallOk.mk' (.c rfl (.c rfl (.c rfl (.c rfl (.c rfl (.n)))))) rfl)) <| .cons (.assign (lt1 rfl) (.tmp rfl)) <| ARun.nil _ _ _) ?_
  refine AWP.ret ?_
  obtain rfl := Option.some.inj h
  refine retJ (Res.vc (s' := ⟨[(6, .rd false y_1.1.length (y_1.1.flatMap encL59))], [(1, ⟨82, false, [.rd β1 y_1.2.1.length (y_1.2.1.flatMap enc8), .sc (.int .i64 y_1.2.2.1), .sc (.bool y_1.2.2.2)]⟩), (2, ⟨39, false, [.ptr 1 0]⟩)]⟩) (VC.sub (.c rfl <| .n _) (.c rfl <| .c rfl <| .n _)) ?_)
  refine Res.sub (H := [(1, ⟨82, false, [.rd β1 y_1.2.1.length (y_1.2.1.flatMap enc8), .sc (.int .i64 y_1.2.2.1), .sc (.bool y_1.2.2.2)]⟩), (2, ⟨39, false, [.ptr 1 0]⟩)]) (.c rfl <| .c rfl <| .n _) ?_
  exact Res.of rfl (.cons (.tmp rfl) (.nil)) rfl rfl
theorem c47 {β1 : Bool} (n : Nat) (a0_b0_b0 : (List UInt8)) (a0_b0_b1 : Int) (a0_b0_b2 : Bool) {r : (R27 × (List UInt8) × Int × Bool)} (h : m47 n a0_b0_b0 a0_b0_b1 a0_b0_b2 = some r) : Spec Try.prog 47 [1, 2] [.ptr 1 0] [(1, ⟨39, false, [.ptr 2 0]⟩), (2, ⟨82, false, [.rd β1 a0_b0_b0.length (a0_b0_b0.flatMap enc8), .sc (.int .i64 a0_b0_b1), .sc (.bool a0_b0_b2)]⟩)] (.agg [.rd false r.1.Outer.length (r.1.Outer.flatMap encR59), .rd false r.1.Holes.length (r.1.Holes.flatMap encL59)]) [(1, ⟨39, false, [.ptr 2 0]⟩), (2, ⟨82, false, [.rd β1 r.2.1.length (r.2.1.flatMap enc8), .sc (.int .i64 r.2.2.1), .sc (.bool r.2.2.2)]⟩)] := by
  refine Spec.of (fn := Try.f47) Try.func47 Try.ntmps47 rfl rfl (le1 rfl) (fun w0 Zs Zb T0 ι0 => ?_)
  unfold m47 at h
  refine AWP.seq ?_
  refine AWP.region (.cons (.alloc (t := 3) (k := ⟨28, false, [.sc (.slice none 0 0), .sc (.slice none 0 0)]⟩) (lt1 rfl) (nm rfl) zero28 rfl rfl) <| ARun.nil _ _ _) ?_
  refine AWP.vc (s' := ⟨[(0, .ptr 1 0), (1, .ptr 3 0)], [(3, ⟨28, false, [.sc (.slice none 0 0), .sc (.slice none 0 0)]⟩), (1, ⟨39, false, [.ptr 2 0]⟩), (2, ⟨82, false, [.rd β1 a0_b0_b0.length (a0_b0_b0.flatMap enc8), .sc (.int .i64 a0_b0_b1), .sc (.bool a0_b0_b2)]⟩)]⟩) (VC.sub (.c rfl <| .c rfl <| .n _) (.c rfl <| .c rfl <| .c rfl <| .n _)) ?_
  refine AWP.seq ?_
  refine AWP.region (.cons (.makeFunc (lt1 rfl) (.nil) (.cons (.tmp rfl) (.nil))) <| .cons (.assign (lt1 rfl) (.tmp rfl)) <| ARun.nil _ _ _) ?_
  refine AWP.vc (s' := ⟨[(0, .ptr 1 0), (1, .ptr 3 0), (2, .clo (.func 48) [] [.ptr 1 0])], [(3, ⟨28, false, [.sc (.slice none 0 0), .sc (.slice none 0 0)]⟩), (1, ⟨39, false, [.ptr 2 0]⟩), (2, ⟨82, false, [.rd β1 a0_b0_b0.length (a0_b0_b0.flatMap enc8), .sc (.int .i64 a0_b0_b1), .sc (.bool a0_b0_b2)]⟩)]⟩) (VC.sub (.c rfl <| .c rfl <| .c rfl <| .n _) (.c rfl <| .c rfl <| .c rfl <| .n _)) ?_
  refine AWP.seq ?_
  obtain ⟨y_1, hy_1, h⟩ := bindS h
  refine AWP.region (.cons (.move (lt1 rfl) (.tmp rfl)) <| .cons (.callV (us' := []) (avs := []) (cs' := [.ptr 1 0]) (σ := sgT [(1, 1), (2, 2)]) (bw := false) (lt1 rfl) (.tmp rfl) (c48 (β1 := β1) n a0_b0_b0 a0_b0_b1 a0_b0_b2 hy_1) (.nil) (.nil) (.cons (.ren rfl) (.nil)) (CallOk.mk' (.c rfl (.c rfl (.n))) rfl) (fun _ h => by cases h)) <| .cons (.buildO (offs := [(0, 1), (1, 1)]) (lt1 rfl) (.cons (.tmp rfl) (by first | exact ⟨rfl, rfl⟩ | rfl) (.nil)) zero28 offs28 rfl) <| .cons (.alloc (t := 4) (k := ⟨28, false, [.sc (.slice none 0 0), .sc (.slice none 0 0)]⟩) (lt1 rfl) (nm rfl) zero28 rfl rfl) <| .cons (.storePA (.tmp rfl) (.tmp rfl) sz28 rfl rfl (le1 rfl) (one_lit rfl) (by intro h; cases h) rfl) <| ARun.nil _ _ _) ?_
  refine AWP.vc (s' := ⟨[(0, .ptr 1 0), (1, .ptr 3 0), (2, .clo (.func 48) [] [.ptr 1 0]), (3, .ptr 4 0)], [(4, ⟨28, false, [.rd false y_1.1.length (y_1.1.flatMap encR59), .sc (.slice none 0 0)]⟩), (1, ⟨39, false, [.ptr 2 0]⟩), (2, ⟨82, false, [.rd β1 y_1.2.1.length (y_1.2.1.flatMap enc8), .sc (.int .i64 y_1.2.2.1), .sc (.bool y_1.2.2.2)]⟩), (3, ⟨28, false, [.sc (.slice none 0 0), .sc (.slice none 0 0)]⟩)]⟩) (VC.sub (.c rfl <| .c rfl <| .c rfl <| .c rfl <| .n _) (.c rfl <| .c rfl <| .c rfl <| .c rfl <| .n _)) ?_
  refine AWP.seq ?_
  obtain ⟨y_2, hy_2, h⟩ := bindS h
  refine AWP.region (.cons (.loadP (lt1 rfl) (.tmp rfl) one39 rfl rfl rfl) <| .cons (.move (lt1 rfl) (.tmp rfl)) <| .cons (.call (σ := sgT [(1, 2), (2, 1)]) (bw := false) (lt1 rfl) (c49 (β1 := β1) n y_1.2.1 y_1.2.2.1 y_1.2.2.2 (6 : Int) hy_2) (.cons (.tmp rfl) (.ren rfl) (.cons (.const _ _ _) (.ren rfl) (.cons (.tmp rfl) (.ren rfl) (.nil)))) (CallOk.mk' (.c rfl (.c rfl (.n))) rfl)) <| .cons (.fieldP (lt1 rfl) (.tmp rfl) fld28_1) <| .cons (.storeP (.tmp rfl) (.tmp rfl) sz26 rfl (lt1 rfl) rfl (by intro h; cases h) rfl) <| ARun.nil _ _ _) ?_
  refine AWP.vc (s' := ⟨[(1, .ptr 3 0), (3, .ptr 4 0)], [(2, ⟨82, false, [.rd β1 y_2.2.1.length (y_2.2.1.flatMap enc8), .sc (.int .i64 y_2.2.2.1), .sc (.bool y_2.2.2.2)]⟩), (1, ⟨39, false, [.ptr 2 0]⟩), (4, ⟨28, false, [.rd false y_1.1.length (y_1.1.flatMap encR59), .rd false y_2.1.length (y_2.1.flatMap encL59)]⟩), (3, ⟨28, false, [.sc (.slice none 0 0), .sc (.slice none 0 0)]⟩)]⟩) (VC.sub (.c rfl <| .c rfl <| .n _) (.c rfl <| .c rfl <| .c rfl <| .c rfl <| .n _)) ?_
  refine AWP.seq ?_
  refine AWP.region (.cons (.loadPA (lt1 rfl) (.tmp rfl) agg28 rfl rfl rfl rfl) <| .cons (.storePA (.tmp rfl) (.tmp rfl) sz28 rfl rfl (le1 rfl) (one_lit rfl) (by intro h; cases h) rfl) <| ARun.nil _ _ _) ?_
  refine AWP.ret ?_
  obtain rfl := Option.some.inj h
  refine retJ (Res.vc (s' := ⟨[(1, .ptr 3 0)], [(3, ⟨28, false, [.rd false y_1.1.length (y_1.1.flatMap encR59), .rd false y_2.1.length (y_2.1.flatMap encL59)]⟩), (1, ⟨39, false, [.ptr 2 0]⟩), (2, ⟨82, false, [.rd β1 y_2.2.1.length (y_2.2.1.flatMap enc8), .sc (.int .i64 y_2.2.2.1), .sc (.bool y_2.2.2.2)]⟩)]⟩) (VC.sub (.c rfl <| .n _) (.c rfl <| .c rfl <| .c rfl <| .n _)) ?_)
  refine Res.sub (H := [(3, ⟨28, false, [.rd false y_1.1.length (y_1.1.flatMap encR59), .rd false y_2.1.length (y_2.1.flatMap encL59)]⟩), (1, ⟨39, false, [.ptr 2 0]⟩), (2, ⟨82, false, [.rd β1 y_2.2.1.length (y_2.2.1.flatMap enc8), .sc (.int .i64 y_2.2.2.1), .sc (.bool y_2.2.2.2)]⟩)]) (.c rfl <| .c rfl <| .n _) ?_
  exact Res.of rfl (.cons (.cell rfl agg28 rfl rfl rfl rfl) (.nil)) rfl rfl
theorem c46 {β1 : Bool} (n : Nat) (a0_b0 : (List UInt8)) (a0_b1 : Int) (a0_b2 : Bool) {r : (R27 × (List UInt8) × Int × Bool)} (h : m46 n a0_b0 a0_b1 a0_b2 = some r) : Spec Try.prog 46 [1, 2] [.ptr 1 0, .clo (.func 47) [] [.ptr 2 0]] [(1, ⟨82, false, [.rd β1 a0_b0.length (a0_b0.flatMap enc8), .sc (.int .i64 a0_b1), .sc (.bool a0_b2)]⟩), (2, ⟨39, false, [.ptr 1 0]⟩)] (.agg [.rd false r.1.Outer.length (r.1.Outer.flatMap encR59), .rd false r.1.Holes.length (r.1.Holes.flatMap encL59)]) [(1, ⟨82, false, [.rd β1 r.2.1.length (r.2.1.flatMap enc8), .sc (.int .i64 r.2.2.1), .sc (.bool r.2.2.2)]⟩), (2, ⟨39, false, [.ptr 1 0]⟩)] := by
  refine Spec.of (fn := Try.f46) Try.func46 Try.ntmps46 rfl rfl (le1 rfl) (fun w0 Zs Zb T0 ι0 => ?_)
  unfold m46 at h
  refine AWP.seq ?_
  refine AWP.region (.cons (.alloc (t := 3) (k := ⟨28, false, [.sc (.slice none 0 0), .sc (.slice none 0 0)]⟩) (lt1 rfl) (nm rfl) zero28 rfl rfl) <| ARun.nil _ _ _) ?_
  refine AWP.vc (s' := ⟨[(0, .ptr 1 0), (1, .clo (.func 47) [] [.ptr 2 0]), (4, .ptr 3 0)], [(3, ⟨28, false, [.sc (.slice none 0 0), .sc (.slice none 0 0)]⟩), (1, ⟨82, false, [.rd β1 a0_b0.length (a0_b0.flatMap enc8), .sc (.int .i64 a0_b1), .sc (.bool a0_b2)]⟩), (2, ⟨39, false, [.ptr 1 0]⟩)]⟩) (VC.sub (.c rfl <| .c rfl <| .c rfl <| .n _) (.c rfl <| .c rfl <| .c rfl <| .n _)) ?_
  refine AWP.seq ?_
  refine AWP.region (.cons (.alloc (t := 4) (k := ⟨28, false, [.sc (.slice none 0 0), .sc (.slice none 0 0)]⟩) (lt1 rfl) (nm rfl) zero28 rfl rfl) <| ARun.nil _ _ _) ?_
  refine AWP.vc (s' := ⟨[(0, .ptr 1 0), (1, .clo (.func 47) [] [.ptr 2 0]), (4, .ptr 3 0), (5, .ptr 4 0)], [(4, ⟨28, false, [.sc (.slice none 0 0), .sc (.slice none 0 0)]⟩), (3, ⟨28, false, [.sc (.slice none 0 0), .sc (.slice none 0 0)]⟩), (1, ⟨82, false, [.rd β1 a0_b0.length (a0_b0.flatMap enc8), .sc (.int .i64 a0_b1), .sc (.bool a0_b2)]⟩), (2, ⟨39, false, [.ptr 1 0]⟩)]⟩) (VC.sub (.c rfl <| .c rfl <| .c rfl <| .c rfl <| .n _) (.c rfl <| .c rfl <| .c rfl <| .c rfl <| .n _)) ?_
  refine AWP.seq ?_
  refine AWP.seq ?_
  refine AWP.region (.cons (.move (lt1 rfl) (.tmp rfl)) <| .cons (.ptrNil0 (lt1 rfl) (.tmp rfl) Try.underlying39) <| .cons (.move (lt1 rfl) (.tmp rfl)) <| .guardT (j := 2) (dj := 10) rfl (lt1 rfl) rfl rfl (.move (lt1 rfl) (.tmp rfl)) <| .guardT (j := 2) (dj := 10) rfl (lt1 rfl) rfl rfl (.nilCheck (lt1 rfl) (.tmp rfl) trivial) <| .guardT (j := 2) (dj := 10) rfl (lt1 rfl) rfl rfl (.fieldP (lt1 rfl) (.tmp rfl) fld82_2) <| .guardT (j := 2) (dj := 10) rfl (lt1 rfl) rfl rfl (.loadP (lt1 rfl) (.tmp rfl) one4 rfl rfl rfl) <| .cons (.pickF (lt1 rfl) (.tmp rfl) rfl (.tmp rfl)) <| ARun.nil _ _ _) ?_
  refine AWP.vc (s' := ⟨[(0, .ptr 1 0), (1, .clo (.func 47) [] [.ptr 2 0]), (4, .ptr 3 0), (5, .ptr 4 0), (15, .sc (.bool a0_b2))], [(4, ⟨28, false, [.sc (.slice none 0 0), .sc (.slice none 0 0)]⟩), (3, ⟨28, false, [.sc (.slice none 0 0), .sc (.slice none 0 0)]⟩), (1, ⟨82, false, [.rd β1 a0_b0.length (a0_b0.flatMap enc8), .sc (.int .i64 a0_b1), .sc (.bool a0_b2)]⟩), (2, ⟨39, false, [.ptr 1 0]⟩)]⟩) (VC.sub (.c rfl <| .c rfl <| .c rfl <| .c rfl <| .c rfl <| .n _) (.c rfl <| .c rfl <| .c rfl <| .c rfl <| .n _)) ?_
  refine AWP.cond (.tmp rfl) (fun hc => ?_) (fun hc => ?_)
  · have h := iteT hc h
    refine AWP.seq ?_
    refine AWP.region (.cons (.loadPA (lt1 rfl) (.tmp rfl) agg28 rfl rfl rfl rfl) <| .cons (.storePA (.tmp rfl) (.tmp rfl) sz28 rfl rfl (le1 rfl) (one_lit rfl) (by intro h; cases h) rfl) <| ARun.nil _ _ _) ?_
    refine AWP.ret ?_
    obtain rfl := Option.some.inj h
    refine retJ (Res.vc (s' := ⟨[(4, .ptr 3 0)], [(3, ⟨28, false, [.rd false ([] : List R59).length (([] : List R59).flatMap encR59), .rd false ([] : List (List R59)).length (([] : List (List R59)).flatMap encL59)]⟩), (1, ⟨82, false, [.rd β1 a0_b0.length (a0_b0.flatMap enc8), .sc (.int .i64 a0_b1), .sc (.bool a0_b2)]⟩), (2, ⟨39, false, [.ptr 1 0]⟩)]⟩) (VC.trans (VC.cell (t := 3) (i := 0) (v' := .rd false ([] : List R59).length (([] : List R59).flatMap encR59)) rfl rfl rfl (fun _ _ _ _ h => nil_rd h)) (VC.trans (VC.cell (t := 3) (i := 1) (v' := .rd false ([] : List (List R59)).length (([] : List (List R59)).flatMap encL59)) rfl rfl rfl (fun _ _ _ _ h => nil_rd h)) (VC.sub (.c rfl <| .n _) (.c rfl <| .c rfl <| .c rfl <| .n _)))) ?_)
    refine Res.sub (H := [(3, ⟨28, false, [.rd false ([] : List R59).length (([] : List R59).flatMap encR59), .rd false ([] : List (List R59)).length (([] : List (List R59)).flatMap encL59)]⟩), (1, ⟨82, false, [.rd β1 a0_b0.length (a0_b0.flatMap enc8), .sc (.int .i64 a0_b1), .sc (.bool a0_b2)]⟩), (2, ⟨39, false, [.ptr 1 0]⟩)]) (.c rfl <| .c rfl <| .n _) ?_
    exact Res.of rfl (.cons (.cell rfl agg28 rfl rfl rfl rfl) (.nil)) rfl rfl
  · have h := iteF hc h
    refine AWP.skip ?_
    refine AWP.seq ?_
    refine AWP.region (.cons (.move (lt1 rfl) (.tmp rfl)) <| .cons (.nilCheck (lt1 rfl) (.tmp rfl) trivial) <| .cons (.fieldP (lt1 rfl) (.tmp rfl) fld82_1) <| .cons (.loadP (lt1 rfl) (.tmp rfl) one3 rfl rfl rfl) <| .cons (.assign (lt1 rfl) (.tmp rfl)) <| ARun.nil _ _ _) ?_
    refine AWP.vc (s' := ⟨[(0, .ptr 1 0), (1, .clo (.func 47) [] [.ptr 2 0]), (4, .ptr 3 0), (5, .ptr 4 0), (6, .sc (.int .i64 a0_b1))], [(4, ⟨28, false, [.sc (.slice none 0 0), .sc (.slice none 0 0)]⟩), (3, ⟨28, false, [.sc (.slice none 0 0), .sc (.slice none 0 0)]⟩), (1, ⟨82, false, [.rd β1 a0_b0.length (a0_b0.flatMap enc8), .sc (.int .i64 a0_b1), .sc (.bool a0_b2)]⟩), (2, ⟨39, false, [.ptr 1 0]⟩)]⟩) (VC.sub (.c rfl <| .c rfl <| .c rfl <| .c rfl <| .c rfl <| .n _) (.c rfl <| .c rfl <| .c rfl <| .c rfl <| .n _)) ?_
    refine AWP.seq ?_
    obtain ⟨y_1, hy_1, h⟩ := bindS h
    refine AWP.region (.cons (.move (lt1 rfl) (.tmp rfl)) <| .cons (.callV (us' := []) (avs := []) (cs' := [.ptr 1 0]) (σ := sgT [(1, 2), (2, 1)]) (bw := false) (lt1 rfl) (.tmp rfl) (c47 (β1 := β1) n a0_b0 a0_b1 a0_b2 hy_1) (.nil) (.nil) (.cons (.ren rfl) (.nil)) (CallOk.mk' (.c rfl (.c rfl (.n))) rfl) (fun _ h => by cases h)) <| .cons (.alloc (t := 5) (k := ⟨28, false, [.sc (.slice none 0 0), .sc (.slice none 0 0)]⟩) (lt1 rfl) (nm rfl) zero28 rfl rfl) <| .cons (.storePA (.tmp rfl) (.tmp rfl) sz28 rfl rfl (le1 rfl) (one_lit rfl) (by intro h; cases h) rfl) <| ARun.nil _ _ _) ?_
    refine AWP.vc (s' := ⟨[(0, .ptr 1 0), (4, .ptr 3 0), (5, .ptr 4 0), (6, .sc (.int .i64 a0_b1)), (7, .ptr 5 0)], [(5, ⟨28, false, [.rd false y_1.1.Outer.length (y_1.1.Outer.flatMap encR59), .rd false y_1.1.Holes.length (y_1.1.Holes.flatMap encL59)]⟩), (2, ⟨39, false, [.ptr 1 0]⟩), (1, ⟨82, false, [.rd β1 y_1.2.1.length (y_1.2.1.flatMap enc8), .sc (.int .i64 y_1.2.2.1), .sc (.bool y_1.2.2.2)]⟩), (4, ⟨28, false, [.sc (.slice none 0 0), .sc (.slice none 0 0)]⟩), (3, ⟨28, false, [.sc (.slice none 0 0), .sc (.slice none 0 0)]⟩)]⟩) (VC.sub (.c rfl <| .c rfl <| .c rfl <| .c rfl <| .c rfl <| .n _) (.c rfl <| .c rfl <| .c rfl <| .c rfl <| .c rfl <| .n _)) ?_
    refine AWP.seq ?_
    refine AWP.seq ?_
    refine AWP.region (.cons (.move (lt1 rfl) (.tmp rfl)) <| .cons (.nilCheck (lt1 rfl) (.tmp rfl) trivial) <| .cons (.fieldP (lt1 rfl) (.tmp rfl) fld82_2) <| .cons (.loadP (lt1 rfl) (.tmp rfl) one4 rfl rfl rfl) <| ARun.nil _ _ _) ?_
    refine AWP.vc (s' := ⟨[(0, .ptr 1 0), (4, .ptr 3 0), (5, .ptr 4 0), (6, .sc (.int .i64 a0_b1)), (7, .ptr 5 0), (26, .sc (.bool y_1.2.2.2))], [(5, ⟨28, false, [.rd false y_1.1.Outer.length (y_1.1.Outer.flatMap encR59), .rd false y_1.1.Holes.length (y_1.1.Holes.flatMap encL59)]⟩), (2, ⟨39, false, [.ptr 1 0]⟩), (1, ⟨82, false, [.rd β1 y_1.2.1.length (y_1.2.1.flatMap enc8), .sc (.int .i64 y_1.2.2.1), .sc (.bool y_1.2.2.2)]⟩), (4, ⟨28, false, [.sc (.slice none 0 0), .sc (.slice none 0 0)]⟩), (3, ⟨28, false, [.sc (.slice none 0 0), .sc (.slice none 0 0)]⟩)]⟩) (VC.sub (.c rfl <| .c rfl <| .c rfl <| .c rfl <| .c rfl <| .c rfl <| .n _) (.c rfl <| .c rfl <| .c rfl <| .c rfl <| .c rfl <| .n _)) ?_
    refine AWP.cond (.tmp rfl) (fun hc => ?_) (fun hc => ?_)
    · have h := iteT hc h
      refine AWP.seq ?_
      refine AWP.region (.cons (.move (lt1 rfl) (.tmp rfl)) <| .cons (.move (lt1 rfl) (.tmp rfl)) <| .cons (.nilCheck (lt1 rfl) (.tmp rfl) trivial) <| .cons (.fieldP (lt1 rfl) (.tmp rfl) fld82_1) <| .cons (.storeP (.tmp rfl) (.tmp rfl) sz3 rfl (lt1 rfl) rfl (by intro h; cases h) rfl) <| ARun.nil _ _ _) ?_
      refine AWP.vc (s' := ⟨[(4, .ptr 3 0), (5, .ptr 4 0)], [(2, ⟨39, false, [.ptr 1 0]⟩), (1, ⟨82, false, [.rd β1 y_1.2.1.length (y_1.2.1.flatMap enc8), .sc (.int .i64 a0_b1), .sc (.bool y_1.2.2.2)]⟩), (4, ⟨28, false, [.sc (.slice none 0 0), .sc (.slice none 0 0)]⟩), (3, ⟨28, false, [.sc (.slice none 0 0), .sc (.slice none 0 0)]⟩)]⟩) (VC.sub (.c rfl <| .c rfl <| .n _) (.c rfl <| .c rfl <| .c rfl <| .c rfl <| .n _)) ?_
      refine AWP.seq ?_
      refine AWP.region (.cons (.loadPA (lt1 rfl) (.tmp rfl) agg28 rfl rfl rfl rfl) <| .cons (.storePA (.tmp rfl) (.tmp rfl) sz28 rfl rfl (le1 rfl) (one_lit rfl) (by intro h; cases h) rfl) <| ARun.nil _ _ _) ?_
      refine AWP.ret ?_
      obtain rfl := Option.some.inj h
      refine retJ (Res.vc (s' := ⟨[(4, .ptr 3 0)], [(3, ⟨28, false, [.rd false ([] : List R59).length (([] : List R59).flatMap encR59), .rd false ([] : List (List R59)).length (([] : List (List R59)).flatMap encL59)]⟩), (1, ⟨82, false, [.rd β1 y_1.2.1.length (y_1.2.1.flatMap enc8), .sc (.int .i64 a0_b1), .sc (.bool y_1.2.2.2)]⟩), (2, ⟨39, false, [.ptr 1 0]⟩)]⟩) (VC.trans (VC.cell (t := 3) (i := 0) (v' := .rd false ([] : List R59).length (([] : List R59).flatMap encR59)) rfl rfl rfl (fun _ _ _ _ h => nil_rd h)) (VC.trans (VC.cell (t := 3) (i := 1) (v' := .rd false ([] : List (List R59)).length (([] : List (List R59)).flatMap encL59)) rfl rfl rfl (fun _ _ _ _ h => nil_rd h)) (VC.sub (.c rfl <| .n _) (.c rfl <| .c rfl <| .c rfl <| .n _)))) ?_)
      refine Res.sub (H := [(3, ⟨28, false, [.rd false ([] : List R59).length (([] : List R59).flatMap encR59), .rd false ([] : List (List R59)).length (([] : List (List R59)).flatMap encL59)]⟩), (1, ⟨82, false, [.rd β1 y_1.2.1.length (y_1.2.1.flatMap enc8), .sc (.int .i64 a0_b1), .sc (.bool y_1.2.2.2)]⟩), (2, ⟨39, false, [.ptr 1 0]⟩)]) (.c rfl <| .c rfl <| .n _) ?_
      exact Res.of rfl (.cons (.cell rfl agg28 rfl rfl rfl rfl) (.nil)) rfl rfl
    · have h := iteF hc h
      refine AWP.skip ?_
      refine AWP.seq ?_
      refine AWP.region (.cons (.loadPA (lt1 rfl) (.tmp rfl) agg28 rfl rfl rfl rfl) <| .cons (.storePA (.tmp rfl) (.tmp rfl) sz28 rfl rfl (le1 rfl) (one_lit rfl) (by intro h; cases h) rfl) <| ARun.nil _ _ _) ?_
      refine AWP.ret ?_
      obtain rfl := Option.some.inj h
      refine retJ (Res.vc (s' := ⟨[(4, .ptr 3 0)], [(3, ⟨28, false, [.rd false y_1.1.Outer.length (y_1.1.Outer.flatMap encR59), .rd false y_1.1.Holes.length (y_1.1.Holes.flatMap encL59)]⟩), (1, ⟨82, false, [.rd β1 y_1.2.1.length (y_1.2.1.flatMap enc8), .sc (.int .i64 y_1.2.2.1), .sc (.bool y_1.2.2.2)]⟩), (2, ⟨39, false, [.ptr 1 0]⟩)]⟩) (VC.sub (.c rfl <| .n _) (.c rfl <| .c rfl <| .c rfl <| .n _)) ?_)
      refine Res.sub (H := [(3, ⟨28, false, [.rd false y_1.1.Outer.length (y_1.1.Outer.flatMap encR59), .rd false y_1.1.Holes.length (y_1.1.Holes.flatMap encL59)]⟩), (1, ⟨82, false, [.rd β1 y_1.2.1.length (y_1.2.1.flatMap enc8), .sc (.int .i64 y_1.2.2.1), .sc (.bool y_1.2.2.2)]⟩), (2, ⟨39, false, [.ptr 1 0]⟩)]) (.c rfl <| .c rfl <| .n _) ?_
      exact Res.of rfl (.cons (.cell rfl agg28 rfl rfl rfl rfl) (.nil)) rfl rfl
theorem c20 {β1 : Bool} (n : Nat) (a0_b0 : (List UInt8)) (a0_b1 : Int) (a0_b2 : Bool) {r : (R27 × (List UInt8) × Int × Bool)} (h : m20 n a0_b0 a0_b1 a0_b2 = some r) : Spec Try.prog 20 [1] [.ptr 1 0] [(1, ⟨82, false, [.rd β1 a0_b0.length (a0_b0.flatMap enc8), .sc (.int .i64 a0_b1), .sc (.bool a0_b2)]⟩)] (.agg [.rd false r.1.Outer.length (r.1.Outer.flatMap encR59), .rd false r.1.Holes.length (r.1.Holes.flatMap encL59)]) [(1, ⟨82, false, [.rd β1 r.2.1.length (r.2.1.flatMap enc8), .sc (.int .i64 r.2.2.1), .sc (.bool r.2.2.2)]⟩)] := by
  refine Spec.of (fn := Try.f20) Try.func20 Try.ntmps20 rfl rfl (le1 rfl) (fun w0 Zs Zb T0 ι0 => ?_)
  unfold m20 at h
  refine AWP.seq ?_
  refine AWP.region (.cons (.box (t := 2) (n := 1) (lt1 rfl) (nm rfl) (.tmp rfl) (by first | exact ⟨rfl, rfl⟩ | rfl) rfl) <| .cons (.alloc (t := 3) (k := ⟨28, false, [.sc (.slice none 0 0), .sc (.slice none 0 0)]⟩) (lt1 rfl) (nm rfl) zero28 rfl rfl) <| ARun.nil _ _ _) ?_
  refine AWP.vc (s' := ⟨[(1, .ptr 2 0), (2, .ptr 3 0)], [(3, ⟨28, false, [.sc (.slice none 0 0), .sc (.slice none 0 0)]⟩), (2, ⟨39, false, [.ptr 1 0]⟩), (1, ⟨82, false, [.rd β1 a0_b0.length (a0_b0.flatMap enc8), .sc (.int .i64 a0_b1), .sc (.bool a0_b2)]⟩)]⟩) (VC.sub (.c rfl <| .c rfl <| .n _) (.c rfl <| .c rfl <| .c rfl <| .n _)) ?_
  refine AWP.seq ?_
  obtain ⟨y_1, hy_1, h⟩ := bindS h
  refine AWP.region (.cons (.loadP (lt1 rfl) (.tmp rfl) one39 rfl rfl rfl) <| .cons (.makeFunc (lt1 rfl) (.nil) (.cons (.tmp rfl) (.nil))) <| .cons (.call (σ := sgT [(1, 1), (2, 2)]) (bw := false) (lt1 rfl) (c46 (β1 := β1) n a0_b0 a0_b1 a0_b2 hy_1) (.cons (.tmp rfl) (.ren rfl) (.cons (.tmp rfl) (.ren rfl) (.nil))) (CallOk.mk' (.c rfl (.c rfl (.n))) rfl)) <| .cons (.storePA (.tmp rfl) (.tmp rfl) sz28 rfl rfl (le1 rfl) (one_lit rfl) (by intro h; cases h) rfl) <| ARun.nil _ _ _) ?_
  refine AWP.ret ?_
  obtain rfl := Option.some.inj h
  refine retJ (Res.vc (s' := ⟨[(2, .ptr 3 0)], [(3, ⟨28, false, [.rd false y_1.1.Outer.length (y_1.1.Outer.flatMap encR59), .rd false y_1.1.Holes.length (y_1.1.Holes.flatMap encL59)]⟩), (1, ⟨82, false, [.rd β1 y_1.2.1.length (y_1.2.1.flatMap enc8), .sc (.int .i64 y_1.2.2.1), .sc (.bool y_1.2.2.2)]⟩)]⟩) (VC.sub (.c rfl <| .n _) (.c rfl <| .c rfl <| .n _)) ?_)
  refine Res.sub (H := [(3, ⟨28, false, [.rd false y_1.1.Outer.length (y_1.1.Outer.flatMap encR59), .rd false y_1.1.Holes.length (y_1.1.Holes.flatMap encL59)]⟩), (1, ⟨82, false, [.rd β1 y_1.2.1.length (y_1.2.1.flatMap enc8), .sc (.int .i64 y_1.2.2.1), .sc (.bool y_1.2.2.2)]⟩)]) (.c rfl <| .n _) ?_
  exact Res.of rfl (.cons (.cell rfl agg28 rfl rfl rfl rfl) (.nil)) rfl rfl
theorem c4 {β1 : Bool} {β2 : Bool} (n : Nat) (a0 : Int) (a1 : (List UInt8)) (a2 : R27) {r : Bool} (h : m4 n a0 a1 a2 = some r) : Spec Try.prog 4 [] [.sc (.int .i64 a0), .sc (.string (mkS a1)), .agg [.rd β1 a2.Outer.length (a2.Outer.flatMap encR59), .rd β2 a2.Holes.length (a2.Holes.flatMap encL59)]] [] (.sc (.bool r)) [] := by
  refine Spec.of (fn := Try.f4) Try.func4 Try.ntmps4 rfl rfl (le1 rfl) (fun w0 Zs Zb T0 ι0 => ?_)
  unfold m4 at h
  refine AWP.seq ?_
  refine AWP.region (.cons (.box (t := 1) (n := 2) (lt1 rfl) (nm rfl) (.tmp rfl) (by first | exact ⟨rfl, rfl⟩ | rfl) rfl) <| .cons (.assign (lt1 rfl) (.const _ _ _)) <| ARun.nil _ _ _) ?_
  refine AWP.vc (s' := ⟨[(0, .sc (.int .i64 a0)), (1, .sc (.string (mkS a1))), (5, .ptr 1 0)], [(1, ⟨28, false, [.rd β1 a2.Outer.length (a2.Outer.flatMap encR59), .rd β2 a2.Holes.length (a2.Holes.flatMap encL59)]⟩)]⟩) (VC.sub (.c rfl <| .c rfl <| .c rfl <| .n _) (.c rfl <| .n _)) ?_
  refine AWP.seq ?_
  refine AWP.seq ?_
  obtain ⟨y_1, hy_1, h⟩ := bindS h
  refine AWP.region (.cons (.call0 (bw := false) (lt1 rfl) (c9 n hy_1) (.nil) rfl) <| .cons (.not (lt1 rfl) (.tmp rfl)) <| ARun.nil _ _ _) ?_
  refine AWP.vc (s' := ⟨[(0, .sc (.int .i64 a0)), (1, .sc (.string (mkS a1))), (5, .ptr 1 0), (17, .sc (.bool (!y_1)))], [(1, ⟨28, false, [.rd β1 a2.Outer.length (a2.Outer.flatMap encR59), .rd β2 a2.Holes.length (a2.Holes.flatMap encL59)]⟩)]⟩) (VC.sub (.c rfl <| .c rfl <| .c rfl <| .c rfl <| .n _) (.c rfl <| .n _)) ?_
  refine AWP.cond (.tmp rfl) (fun hc => ?_) (fun hc => ?_)
  · have h := iteT hc h
    refine AWP.seq ?_
    refine AWP.region (.cons (.assign (lt1 rfl) (.const _ _ _)) <| ARun.nil _ _ _) ?_
    refine AWP.ret ?_
    obtain rfl := Option.some.inj h
    refine retJ (Res.vc (s' := ⟨[(6, .sc (.bool false))], []⟩) (VC.sub (.c rfl <| .n _) (.n _)) ?_)
    refine Res.drop (H := []) rfl ?_
    exact Res.of rfl (.cons (.tmp rfl) (.nil)) rfl rfl
  · have h := iteF hc h
    refine AWP.skip ?_
    refine AWP.seq ?_
    refine AWP.seq ?_
    obtain ⟨y_2, hy_2, h⟩ := bindS h
    refine AWP.region (.cons (.move (lt1 rfl) (.tmp rfl)) <| .cons (.lenS (lt1 rfl) (.tmp rfl) Try.underlying9) <| .cons (.gtr (lt1 rfl) (.tmp rfl) (.const _ _ _)) <| .cons (.move (lt1 rfl) (.tmp rfl)) <| .guard (j := 3) (dj := 21) rfl (lt1 rfl) rfl (lt1 rfl) (fun hg => .loadPA (lt1 rfl) (.tmp rfl) agg28 rfl rfl rfl rfl) <| .guard (j := 3) (dj := 21) rfl (lt1 rfl) rfl (lt1 rfl) (fun hg => .call0 (bw := false) (lt1 rfl) (c10 (β1 := β1) (β2 := β2) n (R27.mk a2.Outer a2.Holes) (gdB hy_2 hg)) (.cons (.gd hg (.tmp rfl)) (.ren rfl) (.nil)) rfl) <| .guard (j := 3) (dj := 21) rfl (lt1 rfl) rfl (lt1 rfl) (fun hg => .not (lt1 rfl) (.gd hg (.tmp rfl))) <| .cons (.pickOr (lt1 rfl) (.tmp rfl) (.const _ _ _) (.tmp rfl)) <| .cons (.move (lt1 rfl) (.tmp rfl)) <| .guard (j := 8) (dj := 26) rfl (lt1 rfl) rfl (lt1 rfl) (fun hg => .fieldP (lt1 rfl) (.tmp rfl) fld28_0) <| .guard (j := 8) (dj := 26) rfl (lt1 rfl) rfl (lt1 rfl) (fun hg => .loadP (lt1 rfl) (.gd hg (.tmp rfl)) one25 rfl rfl rfl) <| .guard (j := 8) (dj := 26) rfl (lt1 rfl) rfl (lt1 rfl) (fun hg => .lenRd (lt1 rfl) (.gd hg (.tmp rfl)) Try.underlying25) <| .guard (j := 8) (dj := 26) rfl (lt1 rfl) rfl (lt1 rfl) (fun hg => .gtr (lt1 rfl) (.gd hg (.tmp rfl)) (.const _ _ _)) <| .cons (.pickOr (lt1 rfl) (.tmp rfl) (.const _ _ _) (.tmp rfl)) <| ARun.nil _ _ _) ?_
    refine AWP.vc (s' := ⟨[(0, .sc (.int .i64 a0)), (1, .sc (.string (mkS a1))), (5, .ptr 1 0), (31, .sc (.bool (((decide ((200 : Int) < (a1.length : Int))) || (!y_2)) || (decide ((20 : Int) < (a2.Outer.length : Int))))))], [(1, ⟨28, false, [.rd β1 a2.Outer.length (a2.Outer.flatMap encR59), .rd β2 a2.Holes.length (a2.Holes.flatMap encL59)]⟩)]⟩) (VC.sub (.c rfl <| .c rfl <| .c rfl <| .c rfl <| .n _) (.c rfl <| .n _)) ?_
    refine AWP.cond (.tmp rfl) (fun hc => ?_) (fun hc => ?_)
    · have h := iteT hc h
      refine AWP.seq ?_
      refine AWP.region (.cons (.assign (lt1 rfl) (.const _ _ _)) <| ARun.nil _ _ _) ?_
      refine AWP.ret ?_
      obtain rfl := Option.some.inj h
      refine retJ (Res.vc (s' := ⟨[(6, .sc (.bool true))], []⟩) (VC.sub (.c rfl <| .n _) (.n _)) ?_)
      refine Res.drop (H := []) rfl ?_
      exact Res.of rfl (.cons (.tmp rfl) (.nil)) rfl rfl
    · have h := iteF hc h
      refine AWP.skip ?_
      refine AWP.seq ?_
      obtain ⟨y_3, hy_3, h⟩ := bindS h
      obtain ⟨y_4, hy_4, h⟩ := bindS h
      obtain ⟨y_5, hy_5, h⟩ := bindS h
      refine AWP.draw (s' := ⟨[(7, .rd false y_3.length (y_3.flatMap enc8)), (8, .rd false y_4.length (y_4.flatMap enc8)), (9, .rd false y_5.length (y_5.flatMap enc8))], [(1, ⟨28, false, [.rd β1 a2.Outer.length (a2.Outer.flatMap encR59), .rd β2 a2.Holes.length (a2.Holes.flatMap encL59)]⟩)]⟩) mixed [⟨0, .sc (.int .i64 a0), none, []⟩, ⟨1, .sc (.string (mkS a1)), none, []⟩, ⟨5, .ptr 1 0, none, []⟩, ⟨31, .sc (.bool (((decide ((200 : Int) < (a1.length : Int))) || (!y_2)) || (decide ((20 : Int) < (a2.Outer.length : Int))))), none, []⟩, ⟨32, .sc (.int .i64 a0), some 0, []⟩, ⟨33, .rd false y_3.length (y_3.flatMap enc8), some 1, []⟩, ⟨34, .sc (.string (mkS a1)), some 2, []⟩, ⟨35, .rd false y_4.length (y_4.flatMap enc8), some 3, []⟩, ⟨36, .agg [.rd β1 a2.Outer.length (a2.Outer.flatMap encR59), .rd β2 a2.Holes.length (a2.Holes.flatMap encL59)], some 4, []⟩, ⟨37, .rd false y_5.length (y_5.flatMap enc8), some 5, []⟩, ⟨7, .rd false y_3.length (y_3.flatMap enc8), some 6, []⟩, ⟨8, .rd false y_4.length (y_4.flatMap enc8), some 7, []⟩, ⟨9, .rd false y_5.length (y_5.flatMap enc8), some 8, []⟩] [⟨[0], 0, 0, some (32, .sc (.int .i64 a0)), []⟩, ⟨[4], 0, 0, some (33, .rd false y_3.length (y_3.flatMap enc8)), []⟩, ⟨[1], 0, 0, some (34, .sc (.string (mkS a1))), []⟩, ⟨[6], 0, 0, some (35, .rd false y_4.length (y_4.flatMap enc8)), []⟩, ⟨[2], 0, 0, some (36, .agg [.rd β1 a2.Outer.length (a2.Outer.flatMap encR59), .rd β2 a2.Holes.length (a2.Holes.flatMap encL59)]), []⟩, ⟨[8], 0, 0, some (37, .rd false y_5.length (y_5.flatMap enc8)), []⟩, ⟨[5], 0, 0, some (7, .rd false y_3.length (y_3.flatMap enc8)), []⟩, ⟨[7], 0, 0, some (8, .rd false y_4.length (y_4.flatMap enc8)), []⟩, ⟨[9], 0, 0, some (9, .rd false y_5.length (y_5.flatMap enc8)), []⟩] [] [[(1, ⟨28, false, [.rd β1 a2.Outer.length (a2.Outer.flatMap encR59), .rd β2 a2.Holes.length (a2.Holes.flatMap encL59)]⟩)]] [[], [0], [], [0, 1, 2], [], [0, 1, 2, 3, 4], [0, 1, 2, 3, 4, 5], [0, 1, 2, 3, 4, 5, 6], [0, 1, 2, 3, 4, 5, 6, 7]] (by kernel_rfl) (by kernel_rfl) (BornL.ok (.o <| .o <| .o <| .o <| .b rfl rfl <| .b rfl rfl <| .b rfl rfl <| .b rfl rfl <| .b rfl rfl <| .b rfl rfl <| .b rfl rfl <| .b rfl rfl <| .b rfl rfl <| .n)) (BaseL.ok (.o rfl <| .o rfl <| .o rfl <| .o rfl <| .b <| .b <| .b <| .b <| .b <| .b <| .b <| .b <| .b <| .n)) rfl (by decide) (allLt rfl) (.pure rfl (fun H => .put (fun E hE => .move (lt1 rfl) (.tmp (hE.at (k := 0) rfl)))) <| .pure rfl (fun H => .put (fun E hE => .call0 (bw := false) (lt1 rfl) (c12x2 n a0 hy_3) (.cons (.const _ _ _) (.ren rfl) (.cons (.tmp (hE.at (k := 0) rfl)) (.ren rfl) (.nil))) rfl)) <| .pure rfl (fun H => .put (fun E hE => .move (lt1 rfl) (.tmp (hE.at (k := 0) rfl)))) <| .pure rfl (fun H => .put (fun E hE => .call0 (bw := false) (lt1 rfl) (c13 n a1 hy_4) (.cons (.const _ _ _) (.ren rfl) (.cons (.tmp (hE.at (k := 0) rfl)) (.ren rfl) (.nil))) rfl)) <| .read rfl (.c (.put (fun E hE => .loadPA (lt1 rfl) (.tmp (hE.at (k := 0) rfl)) agg28 rfl rfl rfl rfl)) .n) <| .pure rfl (fun H => .put (fun E hE => .call0 (bw := false) (lt1 rfl) (c14 (β1 := β1) (β2 := β2) n (R27.mk a2.Outer a2.Holes) hy_5) (.cons (.const _ _ _) (.ren rfl) (.cons (.tmp (hE.at (k := 0) rfl)) (.ren rfl) (.nil))) rfl)) <| .pure rfl (fun H => .put (fun E hE => .assign (lt1 rfl) (.tmp (hE.at (k := 0) rfl)))) <| .pure rfl (fun H => .put (fun E hE => .assign (lt1 rfl) (.tmp (hE.at (k := 0) rfl)))) <| .pure rfl (fun H => .put (fun E hE => .assign (lt1 rfl) (.tmp (hE.at (k := 0) rfl)))) <| .nil _) (fun E hE => .c (DInv.at hE (k := 10) rfl rfl rfl) <| .c (DInv.at hE (k := 11) rfl rfl rfl) <| .c (DInv.at hE (k := 12) rfl rfl rfl) <| .n _) rfl ?_
      refine AWP.vc (s' := ⟨[(7, .rd false y_3.length (y_3.flatMap enc8)), (8, .rd false y_4.length (y_4.flatMap enc8)), (9, .rd false y_5.length (y_5.flatMap enc8))], []⟩) (VC.sub (.c rfl <| .c rfl <| .c rfl <| .n _) (.n _)) ?_
      refine AWP.seq ?_
      refine AWP.seq ?_
      refine AWP.region (.cons (.assign (lt1 rfl) (.const _ _ _)) <| ARun.nil _ _ _) ?_
      refine AWP.vc (s' := ⟨[(7, .rd false y_3.length (y_3.flatMap enc8)), (8, .rd false y_4.length (y_4.flatMap enc8)), (9, .rd false y_5.length (y_5.flatMap enc8)), (10, .sc (.int .i64 (0 : Int)))], []⟩) (VC.sub (.c rfl <| .c rfl <| .c rfl <| .c rfl <| .n _) (.n _)) ?_
      refine AWP.joinB' (S := fun p_25 : Unit => ⟨[(7, .rd false y_3.length (y_3.flatMap enc8)), (8, .rd false y_4.length (y_4.flatMap enc8)), (9, .rd false y_5.length (y_5.flatMap enc8))], []⟩) h (fun p_25 h => ?_) (fun k_26 h => ?_)
      · refine AWP.seq ?_
        refine AWP.seq ?_
        refine AWP.region (.cons (.assign (lt1 rfl) (.const _ _ _)) <| ARun.nil _ _ _) ?_
        refine AWP.vc (s' := ⟨[(7, .rd false y_3.length (y_3.flatMap enc8)), (8, .rd false y_4.length (y_4.flatMap enc8)), (9, .rd false y_5.length (y_5.flatMap enc8)), (12, .sc (.int .i64 (0 : Int)))], []⟩) (VC.sub (.c rfl <| .c rfl <| .c rfl <| .c rfl <| .n _) (.n _)) ?_
        refine AWP.joinB' (S := fun p_46 : Unit => ⟨[(7, .rd false y_3.length (y_3.flatMap enc8)), (8, .rd false y_4.length (y_4.flatMap enc8)), (9, .rd false y_5.length (y_5.flatMap enc8))], []⟩) h (fun p_46 h => ?_) (fun k_47 h => ?_)
        · refine AWP.seq ?_
          refine AWP.seq ?_
          refine AWP.region (.cons (.assign (lt1 rfl) (.const _ _ _)) <| ARun.nil _ _ _) ?_
          refine AWP.vc (s' := ⟨[(7, .rd false y_3.length (y_3.flatMap enc8)), (8, .rd false y_4.length (y_4.flatMap enc8)), (9, .rd false y_5.length (y_5.flatMap enc8)), (14, .sc (.int .i64 (0 : Int)))], []⟩) (VC.sub (.c rfl <| .c rfl <| .c rfl <| .c rfl <| .n _) (.n _)) ?_
          refine AWP.joinB' (S := fun p_70 : Unit => ⟨[(7, .rd false y_3.length (y_3.flatMap enc8)), (8, .rd false y_4.length (y_4.flatMap enc8)), (9, .rd false y_5.length (y_5.flatMap enc8))], []⟩) h (fun p_70 h => ?_) (fun k_71 h => ?_)
          · refine AWP.seq ?_
            refine AWP.region (.cons (.move (lt1 rfl) (.tmp rfl)) <| .cons (.lenRd (lt1 rfl) (.tmp rfl) Try.underlying33) <| .cons (.gtr (lt1 rfl) (.tmp rfl) (.const _ _ _)) <| .cons (.move (lt1 rfl) (.tmp rfl)) <| .guard (j := 3) (dj := 101) rfl (lt1 rfl) rfl (lt1 rfl) (fun hg => .move (lt1 rfl) (.tmp rfl)) <| .guard (j := 3) (dj := 101) rfl (lt1 rfl) rfl (lt1 rfl) (fun hg => .lenRd (lt1 rfl) (.gd hg (.tmp rfl)) Try.underlying33) <| .guard (j := 3) (dj := 101) rfl (lt1 rfl) rfl (lt1 rfl) (fun hg => .gtr (lt1 rfl) (.gd hg (.tmp rfl)) (.const _ _ _)) <| .cons (.pickAnd (lt1 rfl) (.tmp rfl) (.tmp rfl) (.const _ _ _)) <| .cons (.move (lt1 rfl) (.tmp rfl)) <| .guard (j := 8) (dj := 106) rfl (lt1 rfl) rfl (lt1 rfl) (fun hg => .move (lt1 rfl) (.tmp rfl)) <| .guard (j := 8) (dj := 106) rfl (lt1 rfl) rfl (lt1 rfl) (fun hg => .lenRd (lt1 rfl) (.gd hg (.tmp rfl)) Try.underlying33) <| .guard (j := 8) (dj := 106) rfl (lt1 rfl) rfl (lt1 rfl) (fun hg => .gtr (lt1 rfl) (.gd hg (.tmp rfl)) (.const _ _ _)) <| .cons (.pickAnd (lt1 rfl) (.tmp rfl) (.tmp rfl) (.const _ _ _)) <| .cons (.assign (lt1 rfl) (.tmp rfl)) <| ARun.nil _ _ _) ?_
            refine AWP.ret ?_
            obtain rfl := Option.some.inj h
            refine retJ (Res.vc (s' := ⟨[(6, .sc (.bool (((decide ((0 : Int) < (y_3.length : Int))) && (decide ((0 : Int) < (y_4.length : Int)))) && (decide ((0 : Int) < (y_5.length : Int))))))], []⟩) (VC.sub (.c rfl <| .n _) (.n _)) ?_)
            refine Res.drop (H := []) rfl ?_
            exact Res.of rfl (.cons (.tmp rfl) (.nil)) rfl rfl
          · refine AWP.vc (s' := ⟨[(7, .rd false y_3.length (y_3.flatMap enc8)), (8, .rd false y_4.length (y_4.flatMap enc8)), (9, .rd false y_5.length (y_5.flatMap enc8)), (14, .sc (.int .i64 (0 : Int)))], []⟩) (VC.sub (.c rfl <| .c rfl <| .c rfl <| .c rfl <| .n _) (.n _)) ?_
            refine AWP.loopM (S := fun x_62 : Int => ⟨[(7, .rd false y_3.length (y_3.flatMap enc8)), (8, .rd false y_4.length (y_4.flatMap enc8)), (9, .rd false y_5.length (y_5.flatMap enc8)), (14, .sc (.int .i64 x_62))], []⟩) (x := (0 : Int)) (fun nx_63 x_62 h => ?_) h
            unfold m4_L3 at h
            refine AWP.seq ?_
            refine AWP.seq ?_
            refine AWP.region (.cons (.move (lt1 rfl) (.tmp rfl)) <| .cons (.move (lt1 rfl) (.tmp rfl)) <| .cons (.lenRd (lt1 rfl) (.tmp rfl) Try.underlying33) <| .cons (.lss (lt1 rfl) (.tmp rfl) (.tmp rfl)) <| .cons (.move (lt1 rfl) (.tmp rfl)) <| .guard (j := 4) (dj := 78) rfl (lt1 rfl) rfl (lt1 rfl) (fun hg => .move (lt1 rfl) (.tmp rfl)) <| .guard (j := 4) (dj := 78) rfl (lt1 rfl) rfl (lt1 rfl) (fun hg => .lss (lt1 rfl) (.gd hg (.tmp rfl)) (.const _ _ _)) <| .cons (.pickAnd (lt1 rfl) (.tmp rfl) (.tmp rfl) (.const _ _ _)) <| ARun.nil _ _ _) ?_
            refine AWP.vc (s' := ⟨[(7, .rd false y_3.length (y_3.flatMap enc8)), (8, .rd false y_4.length (y_4.flatMap enc8)), (9, .rd false y_5.length (y_5.flatMap enc8)), (14, .sc (.int .i64 x_62)), (81, .sc (.bool ((decide (x_62 < (y_5.length : Int))) && (decide (x_62 < (100 : Int))))))], []⟩) (VC.sub (.c rfl <| .c rfl <| .c rfl <| .c rfl <| .c rfl <| .n _) (.n _)) ?_
            refine AWP.cond (.tmp rfl) (fun hc => ?_) (fun hc => ?_)
            · have h := iteT hc h
              refine AWP.skip ?_
              refine AWP.seq ?_
              refine AWP.block ?_
              refine AWP.seq ?_
              obtain ⟨s_64, hs_64, h⟩ := bindS h
              obtain ⟨y_65, hy_65, h⟩ := bindS h
              refine AWP.region (.cons (.move (lt1 rfl) (.tmp rfl)) <| .cons (.move (lt1 rfl) (.tmp rfl)) <| .cons (.slRd (enc := enc8) (lt1 rfl) (.tmp rfl) Try.underlying33 sz5 enc8_len rfl (.none _ _ _) (.some (.tmp rfl)) hs_64) <| .cons (.call (σ := fun _ => 4) (bw := false) (lt1 rfl) (c16 (β1 := false) n s_64 hy_65) (.cons (.tmp rfl) (.ren rfl) (.nil)) (CallOk.mk' (.n) rfl)) <| .cons (.assign (lt1 rfl) (.tmp rfl)) <| ARun.nil _ _ _) ?_
              refine AWP.vc (s' := ⟨[(7, .rd false y_3.length (y_3.flatMap enc8)), (8, .rd false y_4.length (y_4.flatMap enc8)), (9, .rd false y_5.length (y_5.flatMap enc8)), (14, .sc (.int .i64 x_62)), (15, .ptr 4 0)], [(4, ⟨82, false, [.rd false y_65.b.length (y_65.b.flatMap enc8), .sc (.int .i64 y_65.at_), .sc (.bool y_65.failed)]⟩)]⟩) (VC.sub (.c rfl <| .c rfl <| .c rfl <| .c rfl <| .c rfl <| .n _) (.c rfl <| .n _)) ?_
              refine AWP.seq ?_
              obtain ⟨y_66, hy_66, h⟩ := bindS h
              obtain ⟨y_67, hy_67, h⟩ := bindS h
              obtain ⟨y_68, hy_68, h⟩ := bindS h
              refine AWP.region (.cons (.move (lt1 rfl) (.tmp rfl)) <| .cons (.call (σ := fun _ => 4) (bw := false) (lt1 rfl) (c20 (β1 := false) n y_65.b y_65.at_ y_65.failed hy_66) (.cons (.tmp rfl) (.ren rfl) (.nil)) (CallOk.mk' (.c rfl (.n)) rfl)) <| .cons (.buildO (offs := [(0, 1), (1, 1)]) (lt1 rfl) (.nil) zero28 offs28 rfl) <| .cons (.call0 (bw := false) (lt1 rfl) (c15 (β1 := false) (β2 := false) (β3 := false) (β4 := false) n y_66.1 (R27.mk ([] : List R59) ([] : List (List R59))) hy_67) (.cons (.tmp rfl) (.ren rfl) (.cons (.tmp rfl) (.agg (.cons (.nil) (.cons (.nil) (.nil)))) (.nil))) rfl) <| .cons (.not (lt1 rfl) (.tmp rfl)) <| .cons (.move (lt1 rfl) (.tmp rfl)) <| .guard (j := 5) (dj := 93) rfl (lt1 rfl) rfl (lt1 rfl) (fun hg => .move (lt1 rfl) (.tmp rfl)) <| .guard (j := 5) (dj := 93) rfl (lt1 rfl) rfl (lt1 rfl) (fun hg => .keep (bw := false) (AStep.call (σ := fun _ => 4) (bw := false) (lt1 rfl) (c18 (β1 := false) n y_66.2.1 y_66.2.2.1 y_66.2.2.2 (gdB hy_68 hg)) (.cons (.gd hg (.tmp rfl)) (.ren rfl) (.nil)) (CallOk.mk' (.c rfl (.n)) rfl)) (CallOk.mk' (.c rfl (.n)) rfl) rfl rfl) <| .guard (j := 5) (dj := 93) rfl (lt1 rfl) rfl (lt1 rfl) (fun hg => .neq (lt1 rfl) (.gd hg (.tmp rfl)) (.const _ _ _)) <| .cons (.pickOr (lt1 rfl) (.tmp rfl) (.const _ _ _) (.tmp rfl)) <| ARun.nil _ _ _) ?_
              refine AWP.vc (s' := ⟨[(7, .rd false y_3.length (y_3.flatMap enc8)), (8, .rd false y_4.length (y_4.flatMap enc8)), (9, .rd false y_5.length (y_5.flatMap enc8)), (14, .sc (.int .i64 x_62)), (97, .sc (.bool ((!y_67) || (!decide (y_68 = (4 : Int))))))], []⟩) (VC.sub (.c rfl <| .c rfl <| .c rfl <| .c rfl <| .c rfl <| .n _) (.n _)) ?_
              refine AWP.cond (.tmp rfl) (fun hc => ?_) (fun hc => ?_)
              · have h := iteT hc h
                refine AWP.seq ?_
                refine AWP.region (.cons (.assign (lt1 rfl) (.const _ _ _)) <| ARun.nil _ _ _) ?_
                refine AWP.ret ?_
                obtain rfl := Option.some.inj h
                refine retJ (Res.vc (s' := ⟨[(6, .sc (.bool false))], []⟩) (VC.sub (.c rfl <| .n _) (.n _)) ?_)
                refine Res.drop (H := []) rfl ?_
                exact Res.of rfl (.cons (.tmp rfl) (.nil)) rfl rfl
              · have h := iteF hc h
                refine AWP.skip ?_
                obtain ⟨t14_69, ht14_69, h⟩ := letS h
                refine AWP.region (.cons (.move (lt1 rfl) (.tmp rfl)) <| .cons (.add (lt1 rfl) (.tmp rfl) (.const _ _ _)) <| .cons (.assign (lt1 rfl) (.tmp rfl)) <| ARun.nil _ _ _) ?_
                exact endJ t14_69 h (by subst ht14_69; exact VC.sub (.c rfl <| .c rfl <| .c rfl <| .c rfl <| .n _) (.n _))
            · have h := iteF hc h
              refine AWP.exit ?_
              exact endJ () h (VC.sub (.c rfl <| .c rfl <| .c rfl <| .n _) (.n _))
        · refine AWP.vc (s' := ⟨[(7, .rd false y_3.length (y_3.flatMap enc8)), (8, .rd false y_4.length (y_4.flatMap enc8)), (9, .rd false y_5.length (y_5.flatMap enc8)), (12, .sc (.int .i64 (0 : Int)))], []⟩) (VC.sub (.c rfl <| .c rfl <| .c rfl <| .c rfl <| .n _) (.n _)) ?_
          refine AWP.loopM (S := fun x_39 : Int => ⟨[(7, .rd false y_3.length (y_3.flatMap enc8)), (8, .rd false y_4.length (y_4.flatMap enc8)), (9, .rd false y_5.length (y_5.flatMap enc8)), (12, .sc (.int .i64 x_39))], []⟩) (x := (0 : Int)) (fun nx_40 x_39 h => ?_) h
          unfold m4_L2 at h
          refine AWP.seq ?_
          refine AWP.seq ?_
          refine AWP.region (.cons (.move (lt1 rfl) (.tmp rfl)) <| .cons (.move (lt1 rfl) (.tmp rfl)) <| .cons (.lenRd (lt1 rfl) (.tmp rfl) Try.underlying33) <| .cons (.lss (lt1 rfl) (.tmp rfl) (.tmp rfl)) <| ARun.nil _ _ _) ?_
          refine AWP.vc (s' := ⟨[(7, .rd false y_3.length (y_3.flatMap enc8)), (8, .rd false y_4.length (y_4.flatMap enc8)), (9, .rd false y_5.length (y_5.flatMap enc8)), (12, .sc (.int .i64 x_39)), (59, .sc (.bool (decide (x_39 < (y_4.length : Int)))))], []⟩) (VC.sub (.c rfl <| .c rfl <| .c rfl <| .c rfl <| .c rfl <| .n _) (.n _)) ?_
          refine AWP.cond (.tmp rfl) (fun hc => ?_) (fun hc => ?_)
          · have h := iteT hc h
            refine AWP.skip ?_
            refine AWP.seq ?_
            refine AWP.block ?_
            refine AWP.seq ?_
            obtain ⟨s_41, hs_41, h⟩ := bindS h
            obtain ⟨y_42, hy_42, h⟩ := bindS h
            refine AWP.region (.cons (.move (lt1 rfl) (.tmp rfl)) <| .cons (.move (lt1 rfl) (.tmp rfl)) <| .cons (.slRd (enc := enc8) (lt1 rfl) (.tmp rfl) Try.underlying33 sz5 enc8_len rfl (.none _ _ _) (.some (.tmp rfl)) hs_41) <| .cons (.call (σ := fun _ => 3) (bw := false) (lt1 rfl) (c16 (β1 := false) n s_41 hy_42) (.cons (.tmp rfl) (.ren rfl) (.nil)) (CallOk.mk' (.n) rfl)) <| .cons (.assign (lt1 rfl) (.tmp rfl)) <| ARun.nil _ _ _) ?_
            refine AWP.vc (s' := ⟨[(7, .rd false y_3.length (y_3.flatMap enc8)), (8, .rd false y_4.length (y_4.flatMap enc8)), (9, .rd false y_5.length (y_5.flatMap enc8)), (12, .sc (.int .i64 x_39)), (13, .ptr 3 0)], [(3, ⟨82, false, [.rd false y_42.b.length (y_42.b.flatMap enc8), .sc (.int .i64 y_42.at_), .sc (.bool y_42.failed)]⟩)]⟩) (VC.sub (.c rfl <| .c rfl <| .c rfl <| .c rfl <| .c rfl <| .n _) (.c rfl <| .n _)) ?_
            refine AWP.seq ?_
            obtain ⟨y_43, hy_43, h⟩ := bindS h
            obtain ⟨y_44, hy_44, h⟩ := bindS h
            refine AWP.region (.cons (.move (lt1 rfl) (.tmp rfl)) <| .cons (.call (σ := fun _ => 3) (bw := false) (lt1 rfl) (c19 (β1 := false) n y_42.b y_42.at_ y_42.failed (200 : Int) hy_43) (.cons (.tmp rfl) (.ren rfl) (.cons (.const _ _ _) (.ren rfl) (.nil))) (CallOk.mk' (.c rfl (.n)) rfl)) <| .cons (.neqS (lt1 rfl) (.tmp rfl) (.const _ _ _)) <| .cons (.move (lt1 rfl) (.tmp rfl)) <| .guard (j := 3) (dj := 69) rfl (lt1 rfl) rfl (lt1 rfl) (fun hg => .move (lt1 rfl) (.tmp rfl)) <| .guard (j := 3) (dj := 69) rfl (lt1 rfl) rfl (lt1 rfl) (fun hg => .keep (bw := false) (AStep.call (σ := fun _ => 3) (bw := false) (lt1 rfl) (c18 (β1 := false) n y_43.2.1 y_43.2.2.1 y_43.2.2.2 (gdB hy_44 hg)) (.cons (.gd hg (.tmp rfl)) (.ren rfl) (.nil)) (CallOk.mk' (.c rfl (.n)) rfl)) (CallOk.mk' (.c rfl (.n)) rfl) rfl rfl) <| .guard (j := 3) (dj := 69) rfl (lt1 rfl) rfl (lt1 rfl) (fun hg => .neq (lt1 rfl) (.gd hg (.tmp rfl)) (.const _ _ _)) <| .cons (.pickOr (lt1 rfl) (.tmp rfl) (.const _ _ _) (.tmp rfl)) <| ARun.nil _ _ _) ?_
            refine AWP.vc (s' := ⟨[(7, .rd false y_3.length (y_3.flatMap enc8)), (8, .rd false y_4.length (y_4.flatMap enc8)), (9, .rd false y_5.length (y_5.flatMap enc8)), (12, .sc (.int .i64 x_39)), (73, .sc (.bool ((!(y_43.1 == ([] : List UInt8))) || (!decide (y_44 = (4 : Int))))))], []⟩) (VC.sub (.c rfl <| .c rfl <| .c rfl <| .c rfl <| .c rfl <| .n _) (.n _)) ?_
            refine AWP.cond (.tmp rfl) (fun hc => ?_) (fun hc => ?_)
            · have h := iteT hc h
              refine AWP.seq ?_
              refine AWP.region (.cons (.assign (lt1 rfl) (.const _ _ _)) <| ARun.nil _ _ _) ?_
              refine AWP.ret ?_
              obtain rfl := Option.some.inj h
              refine retJ (Res.vc (s' := ⟨[(6, .sc (.bool false))], []⟩) (VC.sub (.c rfl <| .n _) (.n _)) ?_)
              refine Res.drop (H := []) rfl ?_
              exact Res.of rfl (.cons (.tmp rfl) (.nil)) rfl rfl
            · have h := iteF hc h
              refine AWP.skip ?_
              obtain ⟨t12_45, ht12_45, h⟩ := letS h
              refine AWP.region (.cons (.move (lt1 rfl) (.tmp rfl)) <| .cons (.add (lt1 rfl) (.tmp rfl) (.const _ _ _)) <| .cons (.assign (lt1 rfl) (.tmp rfl)) <| ARun.nil _ _ _) ?_
              exact endJ t12_45 h (by subst ht12_45; exact VC.sub (.c rfl <| .c rfl <| .c rfl <| .c rfl <| .n _) (.n _))
          · have h := iteF hc h
            refine AWP.exit ?_
            exact endJ () h (VC.sub (.c rfl <| .c rfl <| .c rfl <| .n _) (.n _))
      · refine AWP.vc (s' := ⟨[(7, .rd false y_3.length (y_3.flatMap enc8)), (8, .rd false y_4.length (y_4.flatMap enc8)), (9, .rd false y_5.length (y_5.flatMap enc8)), (10, .sc (.int .i64 (0 : Int)))], []⟩) (VC.sub (.c rfl <| .c rfl <| .c rfl <| .c rfl <| .n _) (.n _)) ?_
        refine AWP.loopM (S := fun x_18 : Int => ⟨[(7, .rd false y_3.length (y_3.flatMap enc8)), (8, .rd false y_4.length (y_4.flatMap enc8)), (9, .rd false y_5.length (y_5.flatMap enc8)), (10, .sc (.int .i64 x_18))], []⟩) (x := (0 : Int)) (fun nx_19 x_18 h => ?_) h
        unfold m4_L1 at h
        refine AWP.seq ?_
        refine AWP.seq ?_
        refine AWP.region (.cons (.move (lt1 rfl) (.tmp rfl)) <| .cons (.move (lt1 rfl) (.tmp rfl)) <| .cons (.lenRd (lt1 rfl) (.tmp rfl) Try.underlying33) <| .cons (.lss (lt1 rfl) (.tmp rfl) (.tmp rfl)) <| ARun.nil _ _ _) ?_
        refine AWP.vc (s' := ⟨[(7, .rd false y_3.length (y_3.flatMap enc8)), (8, .rd false y_4.length (y_4.flatMap enc8)), (9, .rd false y_5.length (y_5.flatMap enc8)), (10, .sc (.int .i64 x_18)), (41, .sc (.bool (decide (x_18 < (y_3.length : Int)))))], []⟩) (VC.sub (.c rfl <| .c rfl <| .c rfl <| .c rfl <| .c rfl <| .n _) (.n _)) ?_
        refine AWP.cond (.tmp rfl) (fun hc => ?_) (fun hc => ?_)
        · have h := iteT hc h
          refine AWP.skip ?_
          refine AWP.seq ?_
          refine AWP.block ?_
          refine AWP.seq ?_
          obtain ⟨s_20, hs_20, h⟩ := bindS h
          obtain ⟨y_21, hy_21, h⟩ := bindS h
          refine AWP.region (.cons (.move (lt1 rfl) (.tmp rfl)) <| .cons (.move (lt1 rfl) (.tmp rfl)) <| .cons (.slRd (enc := enc8) (lt1 rfl) (.tmp rfl) Try.underlying33 sz5 enc8_len rfl (.none _ _ _) (.some (.tmp rfl)) hs_20) <| .cons (.call (σ := fun _ => 2) (bw := false) (lt1 rfl) (c16 (β1 := false) n s_20 hy_21) (.cons (.tmp rfl) (.ren rfl) (.nil)) (CallOk.mk' (.n) rfl)) <| .cons (.assign (lt1 rfl) (.tmp rfl)) <| ARun.nil _ _ _) ?_
          refine AWP.vc (s' := ⟨[(7, .rd false y_3.length (y_3.flatMap enc8)), (8, .rd false y_4.length (y_4.flatMap enc8)), (9, .rd false y_5.length (y_5.flatMap enc8)), (10, .sc (.int .i64 x_18)), (11, .ptr 2 0)], [(2, ⟨82, false, [.rd false y_21.b.length (y_21.b.flatMap enc8), .sc (.int .i64 y_21.at_), .sc (.bool y_21.failed)]⟩)]⟩) (VC.sub (.c rfl <| .c rfl <| .c rfl <| .c rfl <| .c rfl <| .n _) (.c rfl <| .n _)) ?_
          refine AWP.seq ?_
          obtain ⟨y_22, hy_22, h⟩ := bindS h
          obtain ⟨y_23, hy_23, h⟩ := bindS h
          refine AWP.region (.cons (.move (lt1 rfl) (.tmp rfl)) <| .cons (.call (σ := fun _ => 2) (bw := false) (lt1 rfl) (c17 (β1 := false) n y_21.b y_21.at_ y_21.failed hy_22) (.cons (.tmp rfl) (.ren rfl) (.nil)) (CallOk.mk' (.c rfl (.n)) rfl)) <| .cons (.neq (lt1 rfl) (.tmp rfl) (.const _ _ _)) <| .cons (.move (lt1 rfl) (.tmp rfl)) <| .guard (j := 3) (dj := 51) rfl (lt1 rfl) rfl (lt1 rfl) (fun hg => .move (lt1 rfl) (.tmp rfl)) <| .guard (j := 3) (dj := 51) rfl (lt1 rfl) rfl (lt1 rfl) (fun hg => .keep (bw := false) (AStep.call (σ := fun _ => 2) (bw := false) (lt1 rfl) (c18 (β1 := false) n y_22.2.1 y_22.2.2.1 y_22.2.2.2 (gdB hy_23 hg)) (.cons (.gd hg (.tmp rfl)) (.ren rfl) (.nil)) (CallOk.mk' (.c rfl (.n)) rfl)) (CallOk.mk' (.c rfl (.n)) rfl) rfl rfl) <| .guard (j := 3) (dj := 51) rfl (lt1 rfl) rfl (lt1 rfl) (fun hg => .neq (lt1 rfl) (.gd hg (.tmp rfl)) (.const _ _ _)) <| .cons (.pickOr (lt1 rfl) (.tmp rfl) (.const _ _ _) (.tmp rfl)) <| ARun.nil _ _ _) ?_
          refine AWP.vc (s' := ⟨[(7, .rd false y_3.length (y_3.flatMap enc8)), (8, .rd false y_4.length (y_4.flatMap enc8)), (9, .rd false y_5.length (y_5.flatMap enc8)), (10, .sc (.int .i64 x_18)), (55, .sc (.bool ((!decide (y_22.1 = (0 : Int))) || (!decide (y_23 = (4 : Int))))))], []⟩) (VC.sub (.c rfl <| .c rfl <| .c rfl <| .c rfl <| .c rfl <| .n _) (.n _)) ?_
          refine AWP.cond (.tmp rfl) (fun hc => ?_) (fun hc => ?_)
          · have h := iteT hc h
            refine AWP.seq ?_
            refine AWP.region (.cons (.assign (lt1 rfl) (.const _ _ _)) <| ARun.nil _ _ _) ?_
            refine AWP.ret ?_
            obtain rfl := Option.some.inj h
            refine retJ (Res.vc (s' := ⟨[(6, .sc (.bool false))], []⟩) (VC.sub (.c rfl <| .n _) (.n _)) ?_)
            refine Res.drop (H := []) rfl ?_
            exact Res.of rfl (.cons (.tmp rfl) (.nil)) rfl rfl
          · have h := iteF hc h
            refine AWP.skip ?_
            obtain ⟨t10_24, ht10_24, h⟩ := letS h
            refine AWP.region (.cons (.move (lt1 rfl) (.tmp rfl)) <| .cons (.add (lt1 rfl) (.tmp rfl) (.const _ _ _)) <| .cons (.assign (lt1 rfl) (.tmp rfl)) <| ARun.nil _ _ _) ?_
            exact endJ t10_24 h (by subst ht10_24; exact VC.sub (.c rfl <| .c rfl <| .c rfl <| .c rfl <| .n _) (.n _))
        · have h := iteF hc h
          refine AWP.exit ?_
          exact endJ () h (VC.sub (.c rfl <| .c rfl <| .c rfl <| .n _) (.n _))
end Go.AB
