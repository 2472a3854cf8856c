import Derived.Test.YtpccmcepgllccaaProg
import Derived.Test.YtpccmcepgllccaaD
import Derived.KernelRfl
set_option linter.unusedVariables false
set_option maxRecDepth 20000
namespace Go.AB
open Go Go.Proofs
theorem c47 (n : Nat) (a0 : R38) {r : Bool} (h : m47 n a0 = some r) : Spec Try.prog 47 [] [.agg [.sc (.int .i64 a0.Release), .sc (.int .i64 a0.Length), .sc (.int .i64 a0.Due)]] [] (.sc (.bool r)) [] := by
  refine Spec.of (fn := Try.f47) Try.func47 Try.ntmps47 rfl rfl (le1 rfl) (fun w0 Zs Zb T0 ι0 => ?_)
  unfold m47 at h
  refine AWP.seq ?_
  refine AWP.region (.cons (.box (t := 1) (n := 3) (lt1 rfl) (nm rfl) (.tmp rfl) (by first | exact ⟨rfl, rfl⟩ | rfl) rfl) <| .cons (.assign (lt1 rfl) (.const _ _ _)) <| ARun.nil _ _ _) ?_
  refine AWP.vc (s' := ⟨[(1, .ptr 1 0)], [(1, ⟨40, false, [.sc (.int .i64 a0.Release), .sc (.int .i64 a0.Length), .sc (.int .i64 a0.Due)]⟩)]⟩) (VC.sub (.c rfl <| .n _) (.c rfl <| .n _)) ?_
  refine AWP.seq ?_
  obtain ⟨t2_1, ht2_1, h⟩ := letS h
  refine AWP.region (.cons (.fieldP (lt1 rfl) (.tmp rfl) fld40_0) <| .cons (.loadP (lt1 rfl) (.tmp rfl) one3 rfl rfl rfl) <| .cons (.lss (lt1 rfl) (.tmp rfl) (.const _ _ _)) <| .cons (.move (lt1 rfl) (.tmp rfl)) <| .guard (j := 3) (dj := 6) rfl (lt1 rfl) rfl (lt1 rfl) (fun hg => .fieldP (lt1 rfl) (.tmp rfl) fld40_0) <| .guard (j := 3) (dj := 6) rfl (lt1 rfl) rfl (lt1 rfl) (fun hg => .loadP (lt1 rfl) (.gd hg (.tmp rfl)) one3 rfl rfl rfl) <| .guard (j := 3) (dj := 6) rfl (lt1 rfl) rfl (lt1 rfl) (fun hg => .gtr (lt1 rfl) (.gd hg (.tmp rfl)) (.const _ _ _)) <| .cons (.pickOr (lt1 rfl) (.tmp rfl) (.const _ _ _) (.tmp rfl)) <| .cons (.move (lt1 rfl) (.tmp rfl)) <| .guard (j := 8) (dj := 11) rfl (lt1 rfl) rfl (lt1 rfl) (fun hg => .fieldP (lt1 rfl) (.tmp rfl) fld40_1) <| .guard (j := 8) (dj := 11) rfl (lt1 rfl) rfl (lt1 rfl) (fun hg => .loadP (lt1 rfl) (.gd hg (.tmp rfl)) one3 rfl rfl rfl) <| .guard (j := 8) (dj := 11) rfl (lt1 rfl) rfl (lt1 rfl) (fun hg => .lss (lt1 rfl) (.gd hg (.tmp rfl)) (.const _ _ _)) <| .cons (.pickOr (lt1 rfl) (.tmp rfl) (.const _ _ _) (.tmp rfl)) <| .cons (.move (lt1 rfl) (.tmp rfl)) <| .guard (j := 13) (dj := 16) rfl (lt1 rfl) rfl (lt1 rfl) (fun hg => .fieldP (lt1 rfl) (.tmp rfl) fld40_1) <| .guard (j := 13) (dj := 16) rfl (lt1 rfl) rfl (lt1 rfl) (fun hg => .loadP (lt1 rfl) (.gd hg (.tmp rfl)) one3 rfl rfl rfl) <| .guard (j := 13) (dj := 16) rfl (lt1 rfl) rfl (lt1 rfl) (fun hg => .gtr (lt1 rfl) (.gd hg (.tmp rfl)) (.const _ _ _)) <| .cons (.pickOr (lt1 rfl) (.tmp rfl) (.const _ _ _) (.tmp rfl)) <| .cons (.move (lt1 rfl) (.tmp rfl)) <| .guard (j := 18) (dj := 21) rfl (lt1 rfl) rfl (lt1 rfl) (fun hg => .fieldP (lt1 rfl) (.tmp rfl) fld40_2) <| .guard (j := 18) (dj := 21) rfl (lt1 rfl) rfl (lt1 rfl) (fun hg => .loadP (lt1 rfl) (.gd hg (.tmp rfl)) one3 rfl rfl rfl) <| .guard (j := 18) (dj := 21) rfl (lt1 rfl) rfl (lt1 rfl) (fun hg => .lss (lt1 rfl) (.gd hg (.tmp rfl)) (.const _ _ _)) <| .cons (.pickOr (lt1 rfl) (.tmp rfl) (.const _ _ _) (.tmp rfl)) <| .cons (.move (lt1 rfl) (.tmp rfl)) <| .guard (j := 23) (dj := 26) rfl (lt1 rfl) rfl (lt1 rfl) (fun hg => .fieldP (lt1 rfl) (.tmp rfl) fld40_2) <| .guard (j := 23) (dj := 26) rfl (lt1 rfl) rfl (lt1 rfl) (fun hg => .loadP (lt1 rfl) (.gd hg (.tmp rfl)) one3 rfl rfl rfl) <| .guard (j := 23) (dj := 26) rfl (lt1 rfl) rfl (lt1 rfl) (fun hg => .gtr (lt1 rfl) (.gd hg (.tmp rfl)) (.const _ _ _)) <| .cons (.pickOr (lt1 rfl) (.tmp rfl) (.const _ _ _) (.tmp rfl)) <| .cons (.assign (lt1 rfl) (.tmp rfl)) <| ARun.nil _ _ _) ?_
  refine AWP.ret ?_
  obtain rfl := Option.some.inj h
  refine retJ (Res.vc (s' := ⟨[(2, .sc (.bool t2_1))], []⟩) (by subst ht2_1; exact VC.sub (.c rfl <| .n _) (.n _)) ?_)
  refine Res.drop (H := []) rfl ?_
  exact Res.of rfl (.cons (.tmp rfl) (.nil)) rfl rfl
theorem c60 {β1 : Bool} (n : Nat) (a0 : (List R38)) {r : Int} (h : m60 n a0 = some r) : Spec Try.prog 60 [] [.rd β1 a0.length (a0.flatMap encR38), .clo (.func 47) [] []] [] (.sc (.int .i64 r)) [] := by
  refine Spec.of (fn := Try.f60) Try.func60 Try.ntmps60 rfl rfl (le1 rfl) (fun w0 Zs Zb T0 ι0 => ?_)
  unfold m60 at h
  refine AWP.seq ?_
  refine AWP.region (.cons (.assign (lt1 rfl) (.const _ _ _)) <| ARun.nil _ _ _) ?_
  refine AWP.vc (s' := ⟨[(0, .rd β1 a0.length (a0.flatMap encR38)), (1, .clo (.func 47) [] [])], []⟩) (VC.sub (.c rfl <| .c rfl <| .n _) (.n _)) ?_
  refine AWP.seq ?_
  refine AWP.seq ?_
  refine AWP.region (.cons (.move (lt1 rfl) (.tmp rfl)) <| .cons (.lenRd (lt1 rfl) (.tmp rfl) Try.underlying30) <| .cons (.move (lt1 rfl) (.const _ _ _)) <| ARun.nil _ _ _) ?_
  refine AWP.vc (s' := ⟨[(0, .rd β1 a0.length (a0.flatMap encR38)), (1, .clo (.func 47) [] []), (7, .sc (.int .i64 (a0.length : Int))), (8, .sc (.int .i64 (0 : Int)))], []⟩) (VC.sub (.c rfl <| .c rfl <| .c rfl <| .c rfl <| .n _) (.n _)) ?_
  refine AWP.joinB' (S := fun p_14 : Unit => ⟨[], []⟩) h (fun p_14 h => ?_) (fun k_15 h => ?_)
  · refine AWP.seq ?_
    refine AWP.region (.cons (.assign (lt1 rfl) (.const _ _ _)) <| ARun.nil _ _ _) ?_
    refine AWP.ret ?_
    obtain rfl := Option.some.inj h
    refine retJ (Res.vc (s' := ⟨[(4, .sc (.int .i64 (-1 : Int)))], []⟩) (VC.sub (.c rfl <| .n _) (.n _)) ?_)
    refine Res.drop (H := []) rfl ?_
    exact Res.of rfl (.cons (.tmp rfl) (.nil)) rfl rfl
  · refine AWP.vc (s' := ⟨[(0, .rd β1 a0.length (a0.flatMap encR38)), (1, .clo (.func 47) [] []), (7, .sc (.int .i64 (a0.length : Int))), (8, .sc (.int .i64 (0 : Int)))], []⟩) (VC.sub (.c rfl <| .c rfl <| .c rfl <| .c rfl <| .n _) (.n _)) ?_
    refine AWP.loopM (S := fun x_9 : Int => ⟨[(0, .rd β1 a0.length (a0.flatMap encR38)), (1, .clo (.func 47) [] []), (7, .sc (.int .i64 (a0.length : Int))), (8, .sc (.int .i64 x_9))], []⟩) (x := (0 : Int)) (fun nx_10 x_9 h => ?_) h
    unfold m60_L1 at h
    refine AWP.seq ?_
    refine AWP.region (.cons (.lss (lt1 rfl) (.tmp rfl) (.tmp rfl)) <| ARun.nil _ _ _) ?_
    refine AWP.vc (s' := ⟨[(0, .rd β1 a0.length (a0.flatMap encR38)), (1, .clo (.func 47) [] []), (7, .sc (.int .i64 (a0.length : Int))), (8, .sc (.int .i64 x_9)), (9, .sc (.bool (decide (x_9 < (a0.length : Int)))))], []⟩) (VC.sub (.c rfl <| .c rfl <| .c rfl <| .c rfl <| .c rfl <| .n _) (.n _)) ?_
    refine AWP.seq ?_
    refine AWP.cond (.tmp rfl) (fun hc => ?_) (fun hc => ?_)
    · have h := iteT hc h
      refine AWP.skip ?_
      refine AWP.seq ?_
      refine AWP.block ?_
      refine AWP.seq ?_
      refine AWP.region (.cons (.move (lt1 rfl) (.tmp rfl)) <| .cons (.assign (lt1 rfl) (.tmp rfl)) <| ARun.nil _ _ _) ?_
      refine AWP.vc (s' := ⟨[(0, .rd β1 a0.length (a0.flatMap encR38)), (1, .clo (.func 47) [] []), (7, .sc (.int .i64 (a0.length : Int))), (8, .sc (.int .i64 x_9)), (5, .sc (.int .i64 x_9))], []⟩) (VC.sub (.c rfl <| .c rfl <| .c rfl <| .c rfl <| .c rfl <| .n _) (.n _)) ?_
      refine AWP.seq ?_
      obtain ⟨y_11, hy_11, h⟩ := bindS h
      obtain ⟨y_12, hy_12, h⟩ := bindS h
      refine AWP.region (.cons (.move (lt1 rfl) (.tmp rfl)) <| .cons (.move (lt1 rfl) (.tmp rfl)) <| .cons (.move (lt1 rfl) (.tmp rfl)) <| .cons (.indexRd (enc := encR38) (lt1 rfl) (.tmp rfl) (.tmp rfl) Try.underlying30 sz40 encR38_len rfl hy_11) <| .cons (.loadRA (out := [.sc (.int .i64 y_11.Release), .sc (.int .i64 y_11.Length), .sc (.int .i64 y_11.Due)]) (lt1 rfl) (.tmp rfl) agg40 (Nat.le_of_eq (Eq.symm (encR38_len _))) rfl) <| .cons (.keep (bw := false) (AStep.callV (us' := []) (avs := [.agg [.sc (.int .i64 ((R38.mk y_11.Release y_11.Length y_11.Due).Release)), .sc (.int .i64 ((R38.mk y_11.Release y_11.Length y_11.Due).Length)), .sc (.int .i64 ((R38.mk y_11.Release y_11.Length y_11.Due).Due))]]) (cs' := []) (σ := sgT []) (bw := false) (lt1 rfl) (.tmp rfl) (c47 n (R38.mk y_11.Release y_11.Length y_11.Due) hy_12) (.nil) (.cons (.tmp rfl) (.ren rfl) (.nil)) (.nil) (CallOk.mk' (.n) rfl) (fun _ h => by cases h)) (CallOk.mk' (.n) rfl) rfl rfl) <| ARun.nil _ _ _) ?_
      refine AWP.vc (s' := ⟨[(0, .rd β1 a0.length (a0.flatMap encR38)), (1, .clo (.func 47) [] []), (7, .sc (.int .i64 (a0.length : Int))), (8, .sc (.int .i64 x_9)), (5, .sc (.int .i64 x_9)), (16, .sc (.bool y_12))], []⟩) (VC.sub (.c rfl <| .c rfl <| .c rfl <| .c rfl <| .c rfl <| .c rfl <| .n _) (.n _)) ?_
      refine AWP.cond (.tmp rfl) (fun hc => ?_) (fun hc => ?_)
      · have h := iteT hc h
        refine AWP.seq ?_
        refine AWP.region (.cons (.move (lt1 rfl) (.tmp rfl)) <| .cons (.assign (lt1 rfl) (.tmp rfl)) <| ARun.nil _ _ _) ?_
        refine AWP.ret ?_
        obtain rfl := Option.some.inj h
        refine retJ (Res.vc (s' := ⟨[(4, .sc (.int .i64 x_9))], []⟩) (VC.sub (.c rfl <| .n _) (.n _)) ?_)
        refine Res.drop (H := []) rfl ?_
        exact Res.of rfl (.cons (.tmp rfl) (.nil)) rfl rfl
      · have h := iteF hc h
        refine AWP.skip ?_
        obtain ⟨t8_13, ht8_13, h⟩ := letS h
        refine AWP.region (.cons (.add (lt1 rfl) (.tmp rfl) (.const _ _ _)) <| .cons (.move (lt1 rfl) (.tmp rfl)) <| ARun.nil _ _ _) ?_
        exact endJ t8_13 h (by subst ht8_13; exact VC.sub (.c rfl <| .c rfl <| .c rfl <| .c rfl <| .n _) (.n _))
    · have h := iteF hc h
      refine AWP.exit ?_
      exact endJ () h (VC.sub (.n _) (.n _))
theorem c48 {β1 : Bool} (n : Nat) (a0 : (List R38)) {r : Bool} (h : m48 n a0 = some r) : Spec Try.prog 48 [] [.rd β1 a0.length (a0.flatMap encR38), .clo (.func 47) [] []] [] (.sc (.bool r)) [] := by
  refine Spec.of (fn := Try.f48) Try.func48 Try.ntmps48 rfl rfl (le1 rfl) (fun w0 Zs Zb T0 ι0 => ?_)
  unfold m48 at h
  refine AWP.seq ?_
  refine AWP.region (.cons (.assign (lt1 rfl) (.const _ _ _)) <| ARun.nil _ _ _) ?_
  refine AWP.vc (s' := ⟨[(0, .rd β1 a0.length (a0.flatMap encR38)), (1, .clo (.func 47) [] [])], []⟩) (VC.sub (.c rfl <| .c rfl <| .n _) (.n _)) ?_
  refine AWP.seq ?_
  obtain ⟨y_1, hy_1, h⟩ := bindS h
  refine AWP.region (.cons (.move (lt1 rfl) (.tmp rfl)) <| .cons (.move (lt1 rfl) (.tmp rfl)) <| .cons (.call0 (bw := false) (lt1 rfl) (c60 (β1 := β1) n a0 hy_1) (.cons (.tmp rfl) (.ren rfl) (.cons (.tmp rfl) (.ren rfl) (.nil))) rfl) <| .cons (.geq (lt1 rfl) (.tmp rfl) (.const _ _ _)) <| .cons (.assign (lt1 rfl) (.tmp rfl)) <| ARun.nil _ _ _) ?_
  refine AWP.ret ?_
  obtain rfl := Option.some.inj h
  refine retJ (Res.vc (s' := ⟨[(4, .sc (.bool (decide ((0 : Int) ≤ y_1))))], []⟩) (VC.sub (.c rfl <| .n _) (.n _)) ?_)
  refine Res.drop (H := []) rfl ?_
  exact Res.of rfl (.cons (.tmp rfl) (.nil)) rfl rfl
theorem c28 {β1 : Bool} (n : Nat) (a0 : (List R38)) {r : Bool} (h : m28 n a0 = some r) : Spec Try.prog 28 [] [.rd β1 a0.length (a0.flatMap encR38)] [] (.sc (.bool r)) [] := by
  refine Spec.of (fn := Try.f28) Try.func28 Try.ntmps28 rfl rfl (le1 rfl) (fun w0 Zs Zb T0 ι0 => ?_)
  unfold m28 at h
  refine AWP.seq ?_
  refine AWP.region (.cons (.assign (lt1 rfl) (.const _ _ _)) <| ARun.nil _ _ _) ?_
  refine AWP.vc (s' := ⟨[(0, .rd β1 a0.length (a0.flatMap encR38))], []⟩) (VC.sub (.c rfl <| .n _) (.n _)) ?_
  refine AWP.seq ?_
  refine AWP.region (.cons (.assign (lt1 rfl) (.func _ _ _)) <| ARun.nil _ _ _) ?_
  refine AWP.vc (s' := ⟨[(0, .rd β1 a0.length (a0.flatMap encR38)), (3, .clo (.func 47) [] [])], []⟩) (VC.sub (.c rfl <| .c rfl <| .n _) (.n _)) ?_
  refine AWP.seq ?_
  obtain ⟨y_1, hy_1, h⟩ := bindS h
  refine AWP.region (.cons (.move (lt1 rfl) (.tmp rfl)) <| .cons (.lenRd (lt1 rfl) (.tmp rfl) Try.underlying30) <| .cons (.leq (lt1 rfl) (.tmp rfl) (.const _ _ _)) <| .cons (.move (lt1 rfl) (.tmp rfl)) <| .guard (j := 3) (dj := 7) rfl (lt1 rfl) rfl (lt1 rfl) (fun hg => .move (lt1 rfl) (.tmp rfl)) <| .guard (j := 3) (dj := 7) rfl (lt1 rfl) rfl (lt1 rfl) (fun hg => .move (lt1 rfl) (.tmp rfl)) <| .guard (j := 3) (dj := 7) rfl (lt1 rfl) rfl (lt1 rfl) (fun hg => .call0 (bw := false) (lt1 rfl) (c48 (β1 := β1) n a0 (gdB hy_1 hg)) (.cons (.gd hg (.tmp rfl)) (.ren rfl) (.cons (.gd hg (.tmp rfl)) (.ren rfl) (.nil))) rfl) <| .guard (j := 3) (dj := 7) rfl (lt1 rfl) rfl (lt1 rfl) (fun hg => .not (lt1 rfl) (.gd hg (.tmp rfl))) <| .cons (.pickAnd (lt1 rfl) (.tmp rfl) (.tmp rfl) (.const _ _ _)) <| .cons (.assign (lt1 rfl) (.tmp rfl)) <| ARun.nil _ _ _) ?_
  refine AWP.ret ?_
  obtain rfl := Option.some.inj h
  refine retJ (Res.vc (s' := ⟨[(2, .sc (.bool ((decide ((a0.length : Int) ≤ (40 : Int))) && (!y_1))))], []⟩) (VC.sub (.c rfl <| .n _) (.n _)) ?_)
  refine Res.drop (H := []) rfl ?_
  exact Res.of rfl (.cons (.tmp rfl) (.nil)) rfl rfl
theorem c59 {β1 : Bool} {β2 : Bool} (n : Nat) (a0 : (List R38)) (a1 : (List Int)) {r : Bool} (h : m59 n a0 a1 = some r) : Spec Try.prog 59 [] [.rd β1 a0.length (a0.flatMap encR38), .rd β2 a1.length (a1.flatMap (encI .i64))] [] (.sc (.bool r)) [] := by
  refine Spec.of (fn := Try.f59) Try.func59 Try.ntmps59 rfl rfl (le1 rfl) (fun w0 Zs Zb T0 ι0 => ?_)
  unfold m59 at h
  refine AWP.seq ?_
  refine AWP.region (.cons (.assign (lt1 rfl) (.const _ _ _)) <| ARun.nil _ _ _) ?_
  refine AWP.vc (s' := ⟨[(0, .rd β1 a0.length (a0.flatMap encR38)), (1, .rd β2 a1.length (a1.flatMap (encI .i64)))], []⟩) (VC.sub (.c rfl <| .c rfl <| .n _) (.n _)) ?_
  refine AWP.seq ?_
  obtain ⟨l1_1, hl1_1, h⟩ := bindS h
  refine AWP.region (.cons (.move (lt1 rfl) (.tmp rfl)) <| .cons (.lenRd (lt1 rfl) (.tmp rfl) Try.underlying30) <| .cons (.mkS (enc := encB) (t := 1) (lt1 rfl) (nm rfl) (.tmp rfl) (.tmp rfl) Try.underlying101 zero4 el4 rfl encB_len (by decide) hl1_1) <| .cons (.assign (lt1 rfl) (.tmp rfl)) <| ARun.nil _ _ _) ?_
  refine AWP.vc (s' := ⟨[(0, .rd β1 a0.length (a0.flatMap encR38)), (1, .rd β2 a1.length (a1.flatMap (encI .i64))), (5, .own 1 1 0 l1_1.length)], [(1, ⟨4, true, l1_1.flatMap encB⟩)]⟩) (VC.sub (.c rfl <| .c rfl <| .c rfl <| .n _) (.c rfl <| .n _)) ?_
  refine AWP.seq ?_
  refine AWP.seq ?_
  refine AWP.region (.cons (.move (lt1 rfl) (.tmp rfl)) <| .cons (.lenRd (lt1 rfl) (.tmp rfl) Try.underlying26) <| .cons (.move (lt1 rfl) (.const _ _ _)) <| ARun.nil _ _ _) ?_
  refine AWP.vc (s' := ⟨[(0, .rd β1 a0.length (a0.flatMap encR38)), (5, .own 1 1 0 l1_1.length), (11, .rd β2 a1.length (a1.flatMap (encI .i64))), (12, .sc (.int .i64 (a1.length : Int))), (13, .sc (.int .i64 (0 : Int)))], [(1, ⟨4, true, l1_1.flatMap encB⟩)]⟩) (VC.sub (.c rfl <| .c rfl <| .c rfl <| .c rfl <| .c rfl <| .n _) (.c rfl <| .n _)) ?_
  refine AWP.joinB' (S := fun p_21 : Unit => ⟨[], []⟩) h (fun p_21 h => ?_) (fun k_22 h => ?_)
  · refine AWP.seq ?_
    refine AWP.region (.cons (.assign (lt1 rfl) (.const _ _ _)) <| ARun.nil _ _ _) ?_
    refine AWP.ret ?_
    obtain rfl := Option.some.inj h
    refine retJ (Res.vc (s' := ⟨[(4, .sc (.bool true))], []⟩) (VC.sub (.c rfl <| .n _) (.n _)) ?_)
    refine Res.drop (H := []) rfl ?_
    exact Res.of rfl (.cons (.tmp rfl) (.nil)) rfl rfl
  · refine AWP.vc (s' := ⟨[(0, .rd β1 a0.length (a0.flatMap encR38)), (5, .own 1 1 0 l1_1.length), (11, .rd β2 a1.length (a1.flatMap (encI .i64))), (12, .sc (.int .i64 (a1.length : Int))), (13, .sc (.int .i64 (0 : Int)))], [(1, ⟨4, true, l1_1.flatMap encB⟩)]⟩) (VC.sub (.c rfl <| .c rfl <| .c rfl <| .c rfl <| .c rfl <| .n _) (.c rfl <| .n _)) ?_
    refine AWP.loopM (S := fun x_14 : Int × (List Bool) => ⟨[(0, .rd β1 a0.length (a0.flatMap encR38)), (5, .own 1 1 0 x_14.2.length), (11, .rd β2 a1.length (a1.flatMap (encI .i64))), (12, .sc (.int .i64 (a1.length : Int))), (13, .sc (.int .i64 x_14.1))], [(1, ⟨4, true, x_14.2.flatMap encB⟩)]⟩) (x := ((0 : Int), l1_1)) (fun nx_15 x_14 h => ?_) h
    unfold m59_L1 at h
    refine AWP.seq ?_
    refine AWP.region (.cons (.lss (lt1 rfl) (.tmp rfl) (.tmp rfl)) <| ARun.nil _ _ _) ?_
    refine AWP.vc (s' := ⟨[(0, .rd β1 a0.length (a0.flatMap encR38)), (5, .own 1 1 0 x_14.2.length), (11, .rd β2 a1.length (a1.flatMap (encI .i64))), (12, .sc (.int .i64 (a1.length : Int))), (13, .sc (.int .i64 x_14.1)), (14, .sc (.bool (decide (x_14.1 < (a1.length : Int)))))], [(1, ⟨4, true, x_14.2.flatMap encB⟩)]⟩) (VC.sub (.c rfl <| .c rfl <| .c rfl <| .c rfl <| .c rfl <| .c rfl <| .n _) (.c rfl <| .n _)) ?_
    refine AWP.seq ?_
    refine AWP.cond (.tmp rfl) (fun hc => ?_) (fun hc => ?_)
    · have h := iteT hc h
      refine AWP.skip ?_
      refine AWP.seq ?_
      refine AWP.block ?_
      refine AWP.seq ?_
      obtain ⟨y_16, hy_16, h⟩ := bindS h
      refine AWP.region (.cons (.indexRd (enc := (encI .i64)) (lt1 rfl) (.tmp rfl) (.tmp rfl) Try.underlying26 sz3 (encI_len .i64) rfl hy_16) <| .cons (.loadR (v := .sc (.int .i64 y_16)) (lt1 rfl) (.tmp rfl) one3 rfl) <| .cons (.assign (lt1 rfl) (.tmp rfl)) <| ARun.nil _ _ _) ?_
      refine AWP.vc (s' := ⟨[(0, .rd β1 a0.length (a0.flatMap encR38)), (5, .own 1 1 0 x_14.2.length), (11, .rd β2 a1.length (a1.flatMap (encI .i64))), (12, .sc (.int .i64 (a1.length : Int))), (13, .sc (.int .i64 x_14.1)), (7, .sc (.int .i64 y_16))], [(1, ⟨4, true, x_14.2.flatMap encB⟩)]⟩) (VC.sub (.c rfl <| .c rfl <| .c rfl <| .c rfl <| .c rfl <| .c rfl <| .n _) (.c rfl <| .n _)) ?_
      refine AWP.seq ?_
      refine AWP.seq ?_
      obtain ⟨y_17, hy_17, h⟩ := bindS h
      refine AWP.region (.cons (.move (lt1 rfl) (.tmp rfl)) <| .cons (.lss (lt1 rfl) (.tmp rfl) (.const _ _ _)) <| .cons (.move (lt1 rfl) (.tmp rfl)) <| .guard (j := 2) (dj := 19) rfl (lt1 rfl) rfl (lt1 rfl) (fun hg => .move (lt1 rfl) (.tmp rfl)) <| .guard (j := 2) (dj := 19) rfl (lt1 rfl) rfl (lt1 rfl) (fun hg => .move (lt1 rfl) (.tmp rfl)) <| .guard (j := 2) (dj := 19) rfl (lt1 rfl) rfl (lt1 rfl) (fun hg => .lenRd (lt1 rfl) (.gd hg (.tmp rfl)) Try.underlying30) <| .guard (j := 2) (dj := 19) rfl (lt1 rfl) rfl (lt1 rfl) (fun hg => .geq (lt1 rfl) (.gd hg (.tmp rfl)) (.gd hg (.tmp rfl))) <| .cons (.pickOr (lt1 rfl) (.tmp rfl) (.const _ _ _) (.tmp rfl)) <| .cons (.move (lt1 rfl) (.tmp rfl)) <| .guard (j := 8) (dj := 25) rfl (lt1 rfl) rfl (lt1 rfl) (fun hg => .move (lt1 rfl) (.tmp rfl)) <| .guard (j := 8) (dj := 25) rfl (lt1 rfl) rfl (lt1 rfl) (fun hg => .move (lt1 rfl) (.tmp rfl)) <| .guard (j := 8) (dj := 25) rfl (lt1 rfl) rfl (lt1 rfl) (fun hg => .idxOwn (lt1 rfl) (.gd hg (.tmp rfl)) (.gd hg (.tmp rfl)) Try.underlying101 sz4 rfl (gdB hy_17 hg)) <| .guard (j := 8) (dj := 25) rfl (lt1 rfl) rfl (lt1 rfl) (fun hg => .loadP (lt1 rfl) (.gd hg (.tmp rfl)) one4 rfl (cell_at1 encB_len (gdB hy_17 hg)) rfl) <| .cons (.pickOr (lt1 rfl) (.tmp rfl) (.const _ _ _) (.tmp rfl)) <| ARun.nil _ _ _) ?_
      refine AWP.vc (s' := ⟨[(0, .rd β1 a0.length (a0.flatMap encR38)), (5, .own 1 1 0 x_14.2.length), (11, .rd β2 a1.length (a1.flatMap (encI .i64))), (12, .sc (.int .i64 (a1.length : Int))), (13, .sc (.int .i64 x_14.1)), (7, .sc (.int .i64 y_16)), (30, .sc (.bool (((decide (y_16 < (0 : Int))) || (decide ((a0.length : Int) ≤ y_16))) || y_17)))], [(1, ⟨4, true, x_14.2.flatMap encB⟩)]⟩) (VC.sub (.c rfl <| .c rfl <| .c rfl <| .c rfl <| .c rfl <| .c rfl <| .c rfl <| .n _) (.c rfl <| .n _)) ?_
      refine AWP.cond (.tmp rfl) (fun hc => ?_) (fun hc => ?_)
      · have h := iteT hc h
        refine AWP.seq ?_
        refine AWP.region (.cons (.assign (lt1 rfl) (.const _ _ _)) <| ARun.nil _ _ _) ?_
        refine AWP.ret ?_
        obtain rfl := Option.some.inj h
        refine retJ (Res.vc (s' := ⟨[(4, .sc (.bool false))], []⟩) (VC.sub (.c rfl <| .n _) (.n _)) ?_)
        refine Res.drop (H := []) rfl ?_
        exact Res.of rfl (.cons (.tmp rfl) (.nil)) rfl rfl
      · have h := iteF hc h
        refine AWP.skip ?_
        obtain ⟨y_18, hy_18, h⟩ := bindS h
        obtain ⟨l1_19, hl1_19, h⟩ := bindS h
        refine AWP.region (.cons (.move (lt1 rfl) (.tmp rfl)) <| .cons (.move (lt1 rfl) (.tmp rfl)) <| .cons (.idxOwn (lt1 rfl) (.tmp rfl) (.tmp rfl) Try.underlying101 sz4 rfl hy_18) <| .cons (.storeP (.tmp rfl) (.const _ _ _) sz4 rfl (lt_at1 encB_len hy_18) rfl (fun _ => rfl) (set_at1 encB_len hl1_19 rfl)) <| ARun.nil _ _ _) ?_
        refine AWP.vc (s' := ⟨[(0, .rd β1 a0.length (a0.flatMap encR38)), (5, .own 1 1 0 l1_19.length), (11, .rd β2 a1.length (a1.flatMap (encI .i64))), (12, .sc (.int .i64 (a1.length : Int))), (13, .sc (.int .i64 x_14.1))], [(1, ⟨4, true, l1_19.flatMap encB⟩)]⟩) (VC.sub (.c rfl <| .c (lenC (Eq.symm (setLen hl1_19)) rfl) <| .c rfl <| .c rfl <| .c rfl <| .n _) (.c rfl <| .n _)) ?_
        obtain ⟨t13_20, ht13_20, h⟩ := letS h
        refine AWP.region (.cons (.add (lt1 rfl) (.tmp rfl) (.const _ _ _)) <| .cons (.move (lt1 rfl) (.tmp rfl)) <| ARun.nil _ _ _) ?_
        exact endJ (t13_20, l1_19) h (by subst ht13_20; exact VC.sub (.c rfl <| .c rfl <| .c rfl <| .c rfl <| .c rfl <| .n _) (.c rfl <| .n _))
    · have h := iteF hc h
      refine AWP.exit ?_
      exact endJ () h (VC.sub (.n _) (.n _))
theorem c44 {β1 : Bool} {β2 : Bool} (n : Nat) (a0 : (List R38)) (a1 : (List Int)) {r : Int} (h : m44 n a0 a1 = some r) : Spec Try.prog 44 [] [.rd β1 a0.length (a0.flatMap encR38), .rd β2 a1.length (a1.flatMap (encI .i64))] [] (.sc (.int .i64 r)) [] := by
  refine Spec.of (fn := Try.f44) Try.func44 Try.ntmps44 rfl rfl (le1 rfl) (fun w0 Zs Zb T0 ι0 => ?_)
  unfold m44 at h
  refine AWP.seq ?_
  refine AWP.region (.cons (.assign (lt1 rfl) (.const _ _ _)) <| ARun.nil _ _ _) ?_
  refine AWP.vc (s' := ⟨[(0, .rd β1 a0.length (a0.flatMap encR38)), (1, .rd β2 a1.length (a1.flatMap (encI .i64)))], []⟩) (VC.sub (.c rfl <| .c rfl <| .n _) (.n _)) ?_
  refine AWP.seq ?_
  refine AWP.block ?_
  refine AWP.seq ?_
  obtain ⟨y_1, hy_1, h⟩ := bindS h
  refine AWP.region (.cons (.move (lt1 rfl) (.tmp rfl)) <| .cons (.call0 (bw := false) (lt1 rfl) (c28 (β1 := β1) n a0 hy_1) (.cons (.tmp rfl) (.ren rfl) (.nil)) rfl) <| .cons (.not (lt1 rfl) (.tmp rfl)) <| .cons (.assign (lt1 rfl) (.tmp rfl)) <| ARun.nil _ _ _) ?_
  refine AWP.vc (s' := ⟨[(0, .rd β1 a0.length (a0.flatMap encR38)), (1, .rd β2 a1.length (a1.flatMap (encI .i64))), (5, .sc (.bool (!y_1)))], []⟩) (VC.sub (.c rfl <| .c rfl <| .c rfl <| .n _) (.n _)) ?_
  refine AWP.cond (.tmp rfl) (fun hc => ?_) (fun hc => ?_)
  · have h := iteT hc h
    refine AWP.seq ?_
    refine AWP.region (.cons (.assign (lt1 rfl) (.const _ _ _)) <| ARun.nil _ _ _) ?_
    refine AWP.ret ?_
    obtain rfl := Option.some.inj h
    refine retJ (Res.vc (s' := ⟨[(4, .sc (.int .i64 (1 : Int)))], []⟩) (VC.sub (.c rfl <| .n _) (.n _)) ?_)
    refine Res.drop (H := []) rfl ?_
    exact Res.of rfl (.cons (.tmp rfl) (.nil)) rfl rfl
  · have h := iteF hc h
    refine AWP.seq ?_
    obtain ⟨y_2, hy_2, h⟩ := bindS h
    refine AWP.region (.cons (.move (lt1 rfl) (.tmp rfl)) <| .cons (.move (lt1 rfl) (.tmp rfl)) <| .cons (.call0 (bw := false) (lt1 rfl) (c59 (β1 := β1) (β2 := β2) n a0 a1 hy_2) (.cons (.tmp rfl) (.ren rfl) (.cons (.tmp rfl) (.ren rfl) (.nil))) rfl) <| .cons (.not (lt1 rfl) (.tmp rfl)) <| .cons (.assign (lt1 rfl) (.tmp rfl)) <| ARun.nil _ _ _) ?_
    refine AWP.vc (s' := ⟨[(9, .sc (.bool (!y_2)))], []⟩) (VC.sub (.c rfl <| .n _) (.n _)) ?_
    refine AWP.cond (.tmp rfl) (fun hc => ?_) (fun hc => ?_)
    · have h := iteT hc h
      refine AWP.seq ?_
      refine AWP.region (.cons (.assign (lt1 rfl) (.const _ _ _)) <| ARun.nil _ _ _) ?_
      refine AWP.ret ?_
      obtain rfl := Option.some.inj h
      refine retJ (Res.vc (s' := ⟨[(4, .sc (.int .i64 (22 : Int)))], []⟩) (VC.sub (.c rfl <| .n _) (.n _)) ?_)
      refine Res.drop (H := []) rfl ?_
      exact Res.of rfl (.cons (.tmp rfl) (.nil)) rfl rfl
    · have h := iteF hc h
      refine AWP.skip ?_
      refine AWP.seq ?_
      refine AWP.region (.cons (.assign (lt1 rfl) (.const _ _ _)) <| ARun.nil _ _ _) ?_
      refine AWP.ret ?_
      obtain rfl := Option.some.inj h
      refine retJ (Res.vc (s' := ⟨[(4, .sc (.int .i64 (0 : Int)))], []⟩) (VC.sub (.c rfl <| .n _) (.n _)) ?_)
      refine Res.drop (H := []) rfl ?_
      exact Res.of rfl (.cons (.tmp rfl) (.nil)) rfl rfl
theorem c45 {β1 : Bool} {β2 : Bool} (n : Nat) (a0 : (List R38)) (a1 : (List Int)) {r : (List Int)} (h : m45 n a0 a1 = some r) : Spec Try.prog 45 [] [.rd β1 a0.length (a0.flatMap encR38), .rd β2 a1.length (a1.flatMap (encI .i64))] [] (.rd false r.length (r.flatMap (encI .i64))) [] := by
  refine Spec.of (fn := Try.f45) Try.func45 Try.ntmps45 rfl rfl (le1 rfl) (fun w0 Zs Zb T0 ι0 => ?_)
  unfold m45 at h
  refine AWP.seq ?_
  refine AWP.region (.cons (.assign (lt1 rfl) (.const _ _ _)) <| ARun.nil _ _ _) ?_
  refine AWP.vc (s' := ⟨[(0, .rd β1 a0.length (a0.flatMap encR38)), (1, .rd β2 a1.length (a1.flatMap (encI .i64)))], []⟩) (VC.sub (.c rfl <| .c rfl <| .n _) (.n _)) ?_
  refine AWP.seq ?_
  refine AWP.region (.cons (.assign (lt1 rfl) (.const _ _ _)) <| ARun.nil _ _ _) ?_
  refine AWP.vc (s' := ⟨[(0, .rd β1 a0.length (a0.flatMap encR38)), (1, .rd β2 a1.length (a1.flatMap (encI .i64))), (5, .sc (.slice none 0 0))], []⟩) (VC.sub (.c rfl <| .c rfl <| .c rfl <| .n _) (.n _)) ?_
  refine AWP.seq ?_
  refine AWP.region (.cons (.assign (lt1 rfl) (.const _ _ _)) <| ARun.nil _ _ _) ?_
  refine AWP.vc (s' := ⟨[(0, .rd β1 a0.length (a0.flatMap encR38)), (1, .rd β2 a1.length (a1.flatMap (encI .i64))), (5, .sc (.slice none 0 0)), (6, .sc (.int .i64 (0 : Int)))], []⟩) (VC.sub (.c rfl <| .c rfl <| .c rfl <| .c rfl <| .n _) (.n _)) ?_
  refine AWP.seq ?_
  refine AWP.seq ?_
  refine AWP.region (.cons (.move (lt1 rfl) (.tmp rfl)) <| .cons (.lenRd (lt1 rfl) (.tmp rfl) Try.underlying26) <| .cons (.move (lt1 rfl) (.const _ _ _)) <| ARun.nil _ _ _) ?_
  refine AWP.vc (s' := ⟨[(0, .rd β1 a0.length (a0.flatMap encR38)), (5, .sc (.slice none 0 0)), (6, .sc (.int .i64 (0 : Int))), (9, .rd β2 a1.length (a1.flatMap (encI .i64))), (10, .sc (.int .i64 (a1.length : Int))), (11, .sc (.int .i64 (0 : Int)))], []⟩) (VC.sub (.c rfl <| .c rfl <| .c rfl <| .c rfl <| .c rfl <| .c rfl <| .n _) (.n _)) ?_
  refine AWP.joinB' (S := fun p_23 : (List Int) => ⟨[(5, .own 1 1 0 p_23.length)], [(1, ⟨3, true, p_23.flatMap (encI .i64)⟩)]⟩) h (fun p_23 h => ?_) (fun k_24 h => ?_)
  · refine AWP.seq ?_
    refine AWP.region (.cons (.move (lt1 rfl) (.tmp rfl)) <| .cons (.assign (lt1 rfl) (.tmp rfl)) <| ARun.nil _ _ _) ?_
    refine AWP.ret ?_
    obtain rfl := Option.some.inj h
    refine retJ (Res.vc (s' := ⟨[(4, .rd false p_23.length (p_23.flatMap (encI .i64)))], []⟩) (VC.trans (VC.frz (d := 4) (t := 1) rfl rfl (encI_len .i64)) (VC.sub (.c rfl <| .n _) (.n _))) ?_)
    refine Res.drop (H := []) rfl ?_
    exact Res.of rfl (.cons (.tmp rfl) (.nil)) rfl rfl
  · refine AWP.vc (VC.nilOwn (d := 5) (t := 1) (sz := 1) (E := 3) rfl (nm rfl)) ?_
    refine AWP.vc (s' := ⟨[(0, .rd β1 a0.length (a0.flatMap encR38)), (5, .own 1 1 0 ([] : List Int).length), (6, .sc (.int .i64 (0 : Int))), (9, .rd β2 a1.length (a1.flatMap (encI .i64))), (10, .sc (.int .i64 (a1.length : Int))), (11, .sc (.int .i64 (0 : Int)))], [(1, ⟨3, true, ([] : List Int).flatMap (encI .i64)⟩)]⟩) (VC.sub (.c rfl <| .c rfl <| .c rfl <| .c rfl <| .c rfl <| .c rfl <| .n _) (.c rfl <| .n _)) ?_
    refine AWP.loopM (S := fun x_15 : Int × Int × (List Int) => ⟨[(0, .rd β1 a0.length (a0.flatMap encR38)), (5, .own 1 1 0 x_15.2.2.length), (6, .sc (.int .i64 x_15.1)), (9, .rd β2 a1.length (a1.flatMap (encI .i64))), (10, .sc (.int .i64 (a1.length : Int))), (11, .sc (.int .i64 x_15.2.1))], [(1, ⟨3, true, x_15.2.2.flatMap (encI .i64)⟩)]⟩) (x := ((0 : Int), (0 : Int), ([] : List Int))) (fun nx_16 x_15 h => ?_) h
    unfold m45_L1 at h
    refine AWP.seq ?_
    refine AWP.region (.cons (.lss (lt1 rfl) (.tmp rfl) (.tmp rfl)) <| ARun.nil _ _ _) ?_
    refine AWP.vc (s' := ⟨[(0, .rd β1 a0.length (a0.flatMap encR38)), (5, .own 1 1 0 x_15.2.2.length), (6, .sc (.int .i64 x_15.1)), (9, .rd β2 a1.length (a1.flatMap (encI .i64))), (10, .sc (.int .i64 (a1.length : Int))), (11, .sc (.int .i64 x_15.2.1)), (12, .sc (.bool (decide (x_15.2.1 < (a1.length : Int)))))], [(1, ⟨3, true, x_15.2.2.flatMap (encI .i64)⟩)]⟩) (VC.sub (.c rfl <| .c rfl <| .c rfl <| .c rfl <| .c rfl <| .c rfl <| .c rfl <| .n _) (.c rfl <| .n _)) ?_
    refine AWP.seq ?_
    refine AWP.cond (.tmp rfl) (fun hc => ?_) (fun hc => ?_)
    · have h := iteT hc h
      refine AWP.skip ?_
      refine AWP.seq ?_
      refine AWP.block ?_
      refine AWP.seq ?_
      obtain ⟨y_17, hy_17, h⟩ := bindS h
      refine AWP.region (.cons (.indexRd (enc := (encI .i64)) (lt1 rfl) (.tmp rfl) (.tmp rfl) Try.underlying26 sz3 (encI_len .i64) rfl hy_17) <| .cons (.loadR (v := .sc (.int .i64 y_17)) (lt1 rfl) (.tmp rfl) one3 rfl) <| .cons (.assign (lt1 rfl) (.tmp rfl)) <| ARun.nil _ _ _) ?_
      refine AWP.vc (s' := ⟨[(0, .rd β1 a0.length (a0.flatMap encR38)), (5, .own 1 1 0 x_15.2.2.length), (6, .sc (.int .i64 x_15.1)), (9, .rd β2 a1.length (a1.flatMap (encI .i64))), (10, .sc (.int .i64 (a1.length : Int))), (11, .sc (.int .i64 x_15.2.1)), (8, .sc (.int .i64 y_17))], [(1, ⟨3, true, x_15.2.2.flatMap (encI .i64)⟩)]⟩) (VC.sub (.c rfl <| .c rfl <| .c rfl <| .c rfl <| .c rfl <| .c rfl <| .c rfl <| .n _) (.c rfl <| .n _)) ?_
      refine AWP.seq ?_
      obtain ⟨y_18, hy_18, h⟩ := bindS h
      obtain ⟨y_19, hy_19, h⟩ := bindS h
      obtain ⟨t6_20, ht6_20, h⟩ := letS h
      refine AWP.draw (s' := ⟨[(0, .rd β1 a0.length (a0.flatMap encR38)), (5, .own 1 1 0 x_15.2.2.length), (6, .sc (.int .i64 (IntKind.wrap .i64 ((if y_18.Release > x_15.1 then y_18.Release else x_15.1) + y_19.Length)))), (9, .rd β2 a1.length (a1.flatMap (encI .i64))), (10, .sc (.int .i64 (a1.length : Int))), (11, .sc (.int .i64 x_15.2.1))], [(1, ⟨3, true, x_15.2.2.flatMap (encI .i64)⟩)]⟩) mixed [⟨0, .rd β1 a0.length (a0.flatMap encR38), none, []⟩, ⟨5, .own 1 1 0 x_15.2.2.length, none, []⟩, ⟨6, .sc (.int .i64 x_15.1), none, [13]⟩, ⟨8, .sc (.int .i64 y_17), none, []⟩, ⟨9, .rd β2 a1.length (a1.flatMap (encI .i64)), none, []⟩, ⟨10, .sc (.int .i64 (a1.length : Int)), none, []⟩, ⟨11, .sc (.int .i64 x_15.2.1), none, []⟩, ⟨15, .sc (.int .i64 x_15.1), some 0, []⟩, ⟨16, .rd β1 a0.length (a0.flatMap encR38), some 1, []⟩, ⟨17, .sc (.int .i64 y_17), some 2, []⟩, ⟨18, .rptr β1 [.sc (.int .i64 y_18.Release), .sc (.int .i64 y_18.Length), .sc (.int .i64 y_18.Due)], some 3, []⟩, ⟨19, .rptr β1 [.sc (.int .i64 y_18.Release), .sc (.int .i64 y_18.Length), .sc (.int .i64 y_18.Due)], some 4, []⟩, ⟨20, .sc (.int .i64 y_18.Release), some 5, []⟩, ⟨21, .sc (.int .i64 (if y_18.Release > x_15.1 then y_18.Release else x_15.1)), some 6, []⟩, ⟨22, .rd β1 a0.length (a0.flatMap encR38), some 7, []⟩, ⟨23, .sc (.int .i64 y_17), some 8, []⟩, ⟨24, .rptr β1 [.sc (.int .i64 y_19.Release), .sc (.int .i64 y_19.Length), .sc (.int .i64 y_19.Due)], some 9, []⟩, ⟨25, .rptr β1 [.sc (.int .i64 y_19.Length), .sc (.int .i64 y_19.Due)], some 10, []⟩, ⟨26, .sc (.int .i64 y_19.Length), some 11, []⟩, ⟨27, .sc (.int .i64 (IntKind.wrap .i64 ((if y_18.Release > x_15.1 then y_18.Release else x_15.1) + y_19.Length))), some 12, []⟩, ⟨6, .sc (.int .i64 (IntKind.wrap .i64 ((if y_18.Release > x_15.1 then y_18.Release else x_15.1) + y_19.Length))), some 13, []⟩] [⟨[2], 0, 0, some (15, .sc (.int .i64 x_15.1)), []⟩, ⟨[0], 0, 0, some (16, .rd β1 a0.length (a0.flatMap encR38)), []⟩, ⟨[3], 0, 0, some (17, .sc (.int .i64 y_17)), []⟩, ⟨[8, 9], 0, 0, some (18, .rptr β1 [.sc (.int .i64 y_18.Release), .sc (.int .i64 y_18.Length), .sc (.int .i64 y_18.Due)]), []⟩, ⟨[10], 0, 0, some (19, .rptr β1 [.sc (.int .i64 y_18.Release), .sc (.int .i64 y_18.Length), .sc (.int .i64 y_18.Due)]), []⟩, ⟨[11], 0, 0, some (20, .sc (.int .i64 y_18.Release)), []⟩, ⟨[7, 12], 0, 0, some (21, .sc (.int .i64 (if y_18.Release > x_15.1 then y_18.Release else x_15.1))), []⟩, ⟨[0], 0, 0, some (22, .rd β1 a0.length (a0.flatMap encR38)), []⟩, ⟨[3], 0, 0, some (23, .sc (.int .i64 y_17)), []⟩, ⟨[14, 15], 0, 0, some (24, .rptr β1 [.sc (.int .i64 y_19.Release), .sc (.int .i64 y_19.Length), .sc (.int .i64 y_19.Due)]), []⟩, ⟨[16], 0, 0, some (25, .rptr β1 [.sc (.int .i64 y_19.Length), .sc (.int .i64 y_19.Due)]), []⟩, ⟨[17], 0, 0, some (26, .sc (.int .i64 y_19.Length)), []⟩, ⟨[13, 18], 0, 0, some (27, .sc (.int .i64 (IntKind.wrap .i64 ((if y_18.Release > x_15.1 then y_18.Release else x_15.1) + y_19.Length)))), []⟩, ⟨[19], 0, 0, some (6, .sc (.int .i64 (IntKind.wrap .i64 ((if y_18.Release > x_15.1 then y_18.Release else x_15.1) + y_19.Length)))), []⟩] [] [[(1, ⟨3, true, x_15.2.2.flatMap (encI .i64)⟩)]] [[], [], [], [1, 2], [1, 2, 3], [1, 2, 3, 4], [0, 1, 2, 3, 4, 5], [], [], [7, 8], [7, 8, 9], [7, 8, 9, 10], [0, 1, 2, 3, 4, 5, 6, 7, 8, 9, 10, 11], [0, 1, 2, 3, 4, 5, 6, 7, 8, 9, 10, 11, 12]] (by kernel_rfl) (by kernel_rfl) (BornL.ok (.o <| .o <| .o <| .o <| .o <| .o <| .o <| .b rfl rfl <| .b rfl rfl <| .b rfl rfl <| .b rfl rfl <| .b rfl rfl <| .b rfl rfl <| .b rfl rfl <| .b rfl rfl <| .b rfl rfl <| .b rfl rfl <| .b rfl rfl <| .b rfl rfl <| .b rfl rfl <| .b rfl rfl <| .n)) (BaseL.ok (.o rfl <| .o rfl <| .o rfl <| .o rfl <| .o rfl <| .o rfl <| .o rfl <| .b <| .b <| .b <| .b <| .b <| .b <| .b <| .b <| .b <| .b <| .b <| .b <| .b <| .b <| .n)) rfl (by decide) (allLt rfl) (.pure rfl (fun H => .put (fun E hE => .move (lt1 rfl) (.tmp (hE.at (k := 0) rfl)))) <| .pure rfl (fun H => .put (fun E hE => .move (lt1 rfl) (.tmp (hE.at (k := 0) rfl)))) <| .pure rfl (fun H => .put (fun E hE => .move (lt1 rfl) (.tmp (hE.at (k := 0) rfl)))) <| .pure rfl (fun H => .put (fun E hE => .indexRd (enc := encR38) (lt1 rfl) (.tmp (hE.at (k := 0) rfl)) (.tmp (hE.at (k := 1) rfl)) Try.underlying30 sz40 encR38_len rfl hy_18)) <| .pure rfl (fun H => .put (fun E hE => .fieldR (lt1 rfl) (.tmp (hE.at (k := 0) rfl)) fld40_0 rfl)) <| .pure rfl (fun H => .put (fun E hE => .loadR (v := .sc (.int .i64 y_18.Release)) (lt1 rfl) (.tmp (hE.at (k := 0) rfl)) one3 rfl)) <| .pure rfl (fun H => .put (fun E hE => .max2 (lt1 rfl) (.tmp (hE.at (k := 0) rfl)) (.tmp (hE.at (k := 1) rfl)))) <| .pure rfl (fun H => .put (fun E hE => .move (lt1 rfl) (.tmp (hE.at (k := 0) rfl)))) <| .pure rfl (fun H => .put (fun E hE => .move (lt1 rfl) (.tmp (hE.at (k := 0) rfl)))) <| .pure rfl (fun H => .put (fun E hE => .indexRd (enc := encR38) (lt1 rfl) (.tmp (hE.at (k := 0) rfl)) (.tmp (hE.at (k := 1) rfl)) Try.underlying30 sz40 encR38_len rfl hy_19)) <| .pure rfl (fun H => .put (fun E hE => .fieldR (lt1 rfl) (.tmp (hE.at (k := 0) rfl)) fld40_1 rfl)) <| .pure rfl (fun H => .put (fun E hE => .loadR (v := .sc (.int .i64 y_19.Length)) (lt1 rfl) (.tmp (hE.at (k := 0) rfl)) one3 rfl)) <| .pure rfl (fun H => .put (fun E hE => .add (lt1 rfl) (.tmp (hE.at (k := 0) rfl)) (.tmp (hE.at (k := 1) rfl)))) <| .pure rfl (fun H => .put (fun E hE => .assign (lt1 rfl) (.tmp (hE.at (k := 0) rfl)))) <| .nil _) (fun E hE => .c (DInv.at hE (k := 0) rfl rfl rfl) <| .c (DInv.at hE (k := 1) rfl rfl rfl) <| .c (DInv.at hE (k := 20) rfl rfl rfl) <| .c (DInv.at hE (k := 4) rfl rfl rfl) <| .c (DInv.at hE (k := 5) rfl rfl rfl) <| .c (DInv.at hE (k := 6) rfl rfl rfl) <| .n _) rfl ?_
      refine AWP.vc (s' := ⟨[(0, .rd β1 a0.length (a0.flatMap encR38)), (5, .own 1 1 0 x_15.2.2.length), (6, .sc (.int .i64 t6_20)), (9, .rd β2 a1.length (a1.flatMap (encI .i64))), (10, .sc (.int .i64 (a1.length : Int))), (11, .sc (.int .i64 x_15.2.1))], [(1, ⟨3, true, x_15.2.2.flatMap (encI .i64)⟩)]⟩) (by subst ht6_20; exact VC.sub (.c rfl <| .c rfl <| .c rfl <| .c rfl <| .c rfl <| .c rfl <| .n _) (.c rfl <| .n _)) ?_
      obtain ⟨l1_21, hl1_21, h⟩ := bindS h
      refine AWP.region (.cons (.move (lt1 rfl) (.tmp rfl)) <| .cons (.move (lt1 rfl) (.tmp rfl)) <| .cons (.buildSlice (t := 2) (out := ([t6_20] : List Int).flatMap (encI .i64)) (lt1 rfl) (nm rfl) (.cons (.tmp rfl) (by first | exact ⟨rfl, rfl⟩ | rfl) (.nil)) Try.underlying26 zero3 el3 (by decide) (by decide) rfl (still_all (encI_still .i64) _)) <| .cons (.app (enc := (encI .i64)) (lt1 rfl) (nm rfl) (.tmp rfl) (Src.own (.tmp rfl) rfl (lendAll (encI_len .i64) _) (flatMap_length (encI_len .i64) _) (one_all (encI_one .i64) _) (.inl rfl)) Try.underlying26 ⟨_, Try.underlying26, by intro k hk; cases hk⟩ el3 rfl (encI_len .i64) rfl rfl (by decide) hl1_21) <| .cons (.assign (lt1 rfl) (.tmp rfl)) <| ARun.nil _ _ _) ?_
      refine AWP.vc (s' := ⟨[(0, .rd β1 a0.length (a0.flatMap encR38)), (5, .own 1 1 0 l1_21.length), (6, .sc (.int .i64 t6_20)), (9, .rd β2 a1.length (a1.flatMap (encI .i64))), (10, .sc (.int .i64 (a1.length : Int))), (11, .sc (.int .i64 x_15.2.1))], [(1, ⟨3, true, l1_21.flatMap (encI .i64)⟩)]⟩) (VC.sub (.c rfl <| .c rfl <| .c rfl <| .c rfl <| .c rfl <| .c rfl <| .n _) (.c rfl <| .n _)) ?_
      obtain ⟨t11_22, ht11_22, h⟩ := letS h
      refine AWP.region (.cons (.add (lt1 rfl) (.tmp rfl) (.const _ _ _)) <| .cons (.move (lt1 rfl) (.tmp rfl)) <| ARun.nil _ _ _) ?_
      exact endJ (t6_20, t11_22, l1_21) h (by subst ht11_22; exact VC.sub (.c rfl <| .c rfl <| .c rfl <| .c rfl <| .c rfl <| .c rfl <| .n _) (.c rfl <| .n _))
    · have h := iteF hc h
      refine AWP.exit ?_
      exact endJ x_15.2.2 h (VC.sub (.c rfl <| .n _) (.c rfl <| .n _))
theorem c46 {β1 : Bool} {β2 : Bool} (n : Nat) (a0 : (List R38)) (a1 : (List Int)) (a2 : Bool) {r : Int} (h : m46 n a0 a1 a2 = some r) : Spec Try.prog 46 [] [.rd β1 a0.length (a0.flatMap encR38), .rd β2 a1.length (a1.flatMap (encI .i64)), .sc (.bool a2)] [] (.sc (.int .i64 r)) [] := by
  refine Spec.of (fn := Try.f46) Try.func46 Try.ntmps46 rfl rfl (le1 rfl) (fun w0 Zs Zb T0 ι0 => ?_)
  unfold m46 at h
  refine AWP.seq ?_
  refine AWP.region (.cons (.assign (lt1 rfl) (.const _ _ _)) <| ARun.nil _ _ _) ?_
  refine AWP.vc (s' := ⟨[(0, .rd β1 a0.length (a0.flatMap encR38)), (1, .rd β2 a1.length (a1.flatMap (encI .i64))), (2, .sc (.bool a2))], []⟩) (VC.sub (.c rfl <| .c rfl <| .c rfl <| .n _) (.n _)) ?_
  refine AWP.seq ?_
  refine AWP.region (.cons (.assign (lt1 rfl) (.const _ _ _)) <| ARun.nil _ _ _) ?_
  refine AWP.vc (s' := ⟨[(0, .rd β1 a0.length (a0.flatMap encR38)), (1, .rd β2 a1.length (a1.flatMap (encI .i64))), (2, .sc (.bool a2)), (7, .sc (.int .i64 (0 : Int)))], []⟩) (VC.sub (.c rfl <| .c rfl <| .c rfl <| .c rfl <| .n _) (.n _)) ?_
  refine AWP.seq ?_
  refine AWP.seq ?_
  obtain ⟨y_1, hy_1, h⟩ := bindS h
  refine AWP.region (.cons (.move (lt1 rfl) (.tmp rfl)) <| .cons (.move (lt1 rfl) (.tmp rfl)) <| .cons (.call0 (bw := false) (lt1 rfl) (c45 (β1 := β1) (β2 := β2) n a0 a1 hy_1) (.cons (.tmp rfl) (.ren rfl) (.cons (.tmp rfl) (.ren rfl) (.nil))) rfl) <| .cons (.lenRd (lt1 rfl) (.tmp rfl) Try.underlying26) <| .cons (.move (lt1 rfl) (.const _ _ _)) <| ARun.nil _ _ _) ?_
  refine AWP.vc (s' := ⟨[(0, .rd β1 a0.length (a0.flatMap encR38)), (1, .rd β2 a1.length (a1.flatMap (encI .i64))), (2, .sc (.bool a2)), (7, .sc (.int .i64 (0 : Int))), (13, .rd false y_1.length (y_1.flatMap (encI .i64))), (14, .sc (.int .i64 (y_1.length : Int))), (15, .sc (.int .i64 (0 : Int)))], []⟩) (VC.sub (.c rfl <| .c rfl <| .c rfl <| .c rfl <| .c rfl <| .c rfl <| .c rfl <| .n _) (.n _)) ?_
  refine AWP.joinB' (S := fun p_36 : Int => ⟨[(7, .sc (.int .i64 p_36))], []⟩) h (fun p_36 h => ?_) (fun k_37 h => ?_)
  · refine AWP.seq ?_
    refine AWP.region (.cons (.move (lt1 rfl) (.tmp rfl)) <| .cons (.assign (lt1 rfl) (.tmp rfl)) <| ARun.nil _ _ _) ?_
    refine AWP.ret ?_
    obtain rfl := Option.some.inj h
    refine retJ (Res.vc (s' := ⟨[(6, .sc (.int .i64 p_36))], []⟩) (VC.sub (.c rfl <| .n _) (.n _)) ?_)
    refine Res.drop (H := []) rfl ?_
    exact Res.of rfl (.cons (.tmp rfl) (.nil)) rfl rfl
  · refine AWP.vc (s' := ⟨[(0, .rd β1 a0.length (a0.flatMap encR38)), (1, .rd β2 a1.length (a1.flatMap (encI .i64))), (2, .sc (.bool a2)), (7, .sc (.int .i64 (0 : Int))), (13, .rd false y_1.length (y_1.flatMap (encI .i64))), (14, .sc (.int .i64 (y_1.length : Int))), (15, .sc (.int .i64 (0 : Int)))], []⟩) (VC.sub (.c rfl <| .c rfl <| .c rfl <| .c rfl <| .c rfl <| .c rfl <| .c rfl <| .n _) (.n _)) ?_
    refine AWP.loopM (S := fun x_24 : Int × Int => ⟨[(0, .rd β1 a0.length (a0.flatMap encR38)), (1, .rd β2 a1.length (a1.flatMap (encI .i64))), (2, .sc (.bool a2)), (7, .sc (.int .i64 x_24.1)), (13, .rd false y_1.length (y_1.flatMap (encI .i64))), (14, .sc (.int .i64 (y_1.length : Int))), (15, .sc (.int .i64 x_24.2))], []⟩) (x := ((0 : Int), (0 : Int))) (fun nx_25 x_24 h => ?_) h
    unfold m46_L1 at h
    refine AWP.seq ?_
    refine AWP.region (.cons (.lss (lt1 rfl) (.tmp rfl) (.tmp rfl)) <| ARun.nil _ _ _) ?_
    refine AWP.vc (s' := ⟨[(0, .rd β1 a0.length (a0.flatMap encR38)), (1, .rd β2 a1.length (a1.flatMap (encI .i64))), (2, .sc (.bool a2)), (7, .sc (.int .i64 x_24.1)), (13, .rd false y_1.length (y_1.flatMap (encI .i64))), (14, .sc (.int .i64 (y_1.length : Int))), (15, .sc (.int .i64 x_24.2)), (16, .sc (.bool (decide (x_24.2 < (y_1.length : Int)))))], []⟩) (VC.sub (.c rfl <| .c rfl <| .c rfl <| .c rfl <| .c rfl <| .c rfl <| .c rfl <| .c rfl <| .n _) (.n _)) ?_
    refine AWP.seq ?_
    refine AWP.cond (.tmp rfl) (fun hc => ?_) (fun hc => ?_)
    · have h := iteT hc h
      refine AWP.skip ?_
      refine AWP.seq ?_
      refine AWP.block ?_
      refine AWP.seq ?_
      obtain ⟨y_26, hy_26, h⟩ := bindS h
      refine AWP.region (.cons (.move (lt1 rfl) (.tmp rfl)) <| .cons (.indexRd (enc := (encI .i64)) (lt1 rfl) (.tmp rfl) (.tmp rfl) Try.underlying26 sz3 (encI_len .i64) rfl hy_26) <| .cons (.loadR (v := .sc (.int .i64 y_26)) (lt1 rfl) (.tmp rfl) one3 rfl) <| .cons (.assign (lt1 rfl) (.tmp rfl)) <| .cons (.assign (lt1 rfl) (.tmp rfl)) <| ARun.nil _ _ _) ?_
      refine AWP.vc (s' := ⟨[(0, .rd β1 a0.length (a0.flatMap encR38)), (1, .rd β2 a1.length (a1.flatMap (encI .i64))), (2, .sc (.bool a2)), (7, .sc (.int .i64 x_24.1)), (13, .rd false y_1.length (y_1.flatMap (encI .i64))), (14, .sc (.int .i64 (y_1.length : Int))), (15, .sc (.int .i64 x_24.2)), (8, .sc (.int .i64 x_24.2)), (9, .sc (.int .i64 y_26))], []⟩) (VC.sub (.c rfl <| .c rfl <| .c rfl <| .c rfl <| .c rfl <| .c rfl <| .c rfl <| .c rfl <| .c rfl <| .n _) (.n _)) ?_
      refine AWP.seq ?_
      obtain ⟨y_27, hy_27, h⟩ := bindS h
      obtain ⟨y_28, hy_28, h⟩ := bindS h
      obtain ⟨t10_29, ht10_29, h⟩ := letS h
      refine AWP.region (.cons (.move (lt1 rfl) (.tmp rfl)) <| .cons (.move (lt1 rfl) (.tmp rfl)) <| .cons (.move (lt1 rfl) (.tmp rfl)) <| .cons (.move (lt1 rfl) (.tmp rfl)) <| .cons (.indexRd (enc := (encI .i64)) (lt1 rfl) (.tmp rfl) (.tmp rfl) Try.underlying26 sz3 (encI_len .i64) rfl hy_27) <| .cons (.loadR (v := .sc (.int .i64 y_27)) (lt1 rfl) (.tmp rfl) one3 rfl) <| .cons (.indexRd (enc := encR38) (lt1 rfl) (.tmp rfl) (.tmp rfl) Try.underlying30 sz40 encR38_len rfl hy_28) <| .cons (.fieldR (lt1 rfl) (.tmp rfl) fld40_2 rfl) <| .cons (.loadR (v := .sc (.int .i64 y_28.Due)) (lt1 rfl) (.tmp rfl) one3 rfl) <| .cons (.sub (lt1 rfl) (.tmp rfl) (.tmp rfl)) <| .cons (.assign (lt1 rfl) (.tmp rfl)) <| ARun.nil _ _ _) ?_
      refine AWP.vc (s' := ⟨[(0, .rd β1 a0.length (a0.flatMap encR38)), (1, .rd β2 a1.length (a1.flatMap (encI .i64))), (2, .sc (.bool a2)), (7, .sc (.int .i64 x_24.1)), (13, .rd false y_1.length (y_1.flatMap (encI .i64))), (14, .sc (.int .i64 (y_1.length : Int))), (15, .sc (.int .i64 x_24.2)), (8, .sc (.int .i64 x_24.2)), (10, .sc (.int .i64 t10_29))], []⟩) (by subst ht10_29; exact VC.sub (.c rfl <| .c rfl <| .c rfl <| .c rfl <| .c rfl <| .c rfl <| .c rfl <| .c rfl <| .c rfl <| .n _) (.n _)) ?_
      refine AWP.block ?_
      refine AWP.seq ?_
      refine AWP.region (.cons (.move (lt1 rfl) (.tmp rfl)) <| .cons (.not (lt1 rfl) (.tmp rfl)) <| .cons (.assign (lt1 rfl) (.tmp rfl)) <| ARun.nil _ _ _) ?_
      refine AWP.vc (s' := ⟨[(0, .rd β1 a0.length (a0.flatMap encR38)), (1, .rd β2 a1.length (a1.flatMap (encI .i64))), (2, .sc (.bool a2)), (7, .sc (.int .i64 x_24.1)), (13, .rd false y_1.length (y_1.flatMap (encI .i64))), (14, .sc (.int .i64 (y_1.length : Int))), (15, .sc (.int .i64 x_24.2)), (8, .sc (.int .i64 x_24.2)), (10, .sc (.int .i64 t10_29)), (30, .sc (.bool (!a2)))], []⟩) (VC.sub (.c rfl <| .c rfl <| .c rfl <| .c rfl <| .c rfl <| .c rfl <| .c rfl <| .c rfl <| .c rfl <| .c rfl <| .n _) (.n _)) ?_
      refine AWP.join' (S := fun p_33 : Int => ⟨[(0, .rd β1 a0.length (a0.flatMap encR38)), (1, .rd β2 a1.length (a1.flatMap (encI .i64))), (2, .sc (.bool a2)), (7, .sc (.int .i64 p_33)), (13, .rd false y_1.length (y_1.flatMap (encI .i64))), (14, .sc (.int .i64 (y_1.length : Int))), (15, .sc (.int .i64 x_24.2))], []⟩) h (fun p_33 h => ?_) (fun k_34 h => ?_)
      · obtain ⟨t15_35, ht15_35, h⟩ := letS h
        refine AWP.region (.cons (.add (lt1 rfl) (.tmp rfl) (.const _ _ _)) <| .cons (.move (lt1 rfl) (.tmp rfl)) <| ARun.nil _ _ _) ?_
        exact endJ (p_33, t15_35) h (by subst ht15_35; exact VC.sub (.c rfl <| .c rfl <| .c rfl <| .c rfl <| .c rfl <| .c rfl <| .c rfl <| .n _) (.n _))
      · refine AWP.cond (.tmp rfl) (fun hc => ?_) (fun hc => ?_)
        · have h := iteT hc h
          obtain ⟨t7_30, ht7_30, h⟩ := letS h
          refine AWP.region (.cons (.move (lt1 rfl) (.tmp rfl)) <| .cons (.move (lt1 rfl) (.tmp rfl)) <| .cons (.max2 (lt1 rfl) (.const _ _ _) (.tmp rfl)) <| .cons (.add (lt1 rfl) (.tmp rfl) (.tmp rfl)) <| .cons (.assign (lt1 rfl) (.tmp rfl)) <| ARun.nil _ _ _) ?_
          exact endJ t7_30 h (by subst ht7_30; exact VC.sub (.c rfl <| .c rfl <| .c rfl <| .c rfl <| .c rfl <| .c rfl <| .c rfl <| .n _) (.n _))
        · have h := iteF hc h
          refine AWP.seq ?_
          refine AWP.region (.cons (.move (lt1 rfl) (.tmp rfl)) <| .cons (.eql (lt1 rfl) (.tmp rfl) (.const _ _ _)) <| .cons (.move (lt1 rfl) (.tmp rfl)) <| .guard (j := 2) (dj := 40) rfl (lt1 rfl) rfl (lt1 rfl) (fun hg => .move (lt1 rfl) (.tmp rfl)) <| .guard (j := 2) (dj := 40) rfl (lt1 rfl) rfl (lt1 rfl) (fun hg => .move (lt1 rfl) (.tmp rfl)) <| .guard (j := 2) (dj := 40) rfl (lt1 rfl) rfl (lt1 rfl) (fun hg => .gtr (lt1 rfl) (.gd hg (.tmp rfl)) (.gd hg (.tmp rfl))) <| .cons (.pickOr (lt1 rfl) (.tmp rfl) (.const _ _ _) (.tmp rfl)) <| .cons (.assign (lt1 rfl) (.tmp rfl)) <| ARun.nil _ _ _) ?_
          refine AWP.vc (s' := ⟨[(0, .rd β1 a0.length (a0.flatMap encR38)), (1, .rd β2 a1.length (a1.flatMap (encI .i64))), (2, .sc (.bool a2)), (7, .sc (.int .i64 x_24.1)), (13, .rd false y_1.length (y_1.flatMap (encI .i64))), (14, .sc (.int .i64 (y_1.length : Int))), (15, .sc (.int .i64 x_24.2)), (10, .sc (.int .i64 t10_29)), (37, .sc (.bool ((decide (x_24.2 = (0 : Int))) || (decide (x_24.1 < t10_29)))))], []⟩) (VC.sub (.c rfl <| .c rfl <| .c rfl <| .c rfl <| .c rfl <| .c rfl <| .c rfl <| .c rfl <| .c rfl <| .n _) (.n _)) ?_
          refine AWP.join' (S := fun p_31 : Int => ⟨[(0, .rd β1 a0.length (a0.flatMap encR38)), (1, .rd β2 a1.length (a1.flatMap (encI .i64))), (2, .sc (.bool a2)), (7, .sc (.int .i64 p_31)), (13, .rd false y_1.length (y_1.flatMap (encI .i64))), (14, .sc (.int .i64 (y_1.length : Int))), (15, .sc (.int .i64 x_24.2))], []⟩) h (fun p_31 h => ?_) (fun k_32 h => ?_)
          · exact endJ p_31 h (VC.sub (.c rfl <| .c rfl <| .c rfl <| .c rfl <| .c rfl <| .c rfl <| .c rfl <| .n _) (.n _))
          · refine AWP.cond (.tmp rfl) (fun hc => ?_) (fun hc => ?_)
            · have h := iteT hc h
              refine AWP.region (.cons (.move (lt1 rfl) (.tmp rfl)) <| .cons (.assign (lt1 rfl) (.tmp rfl)) <| ARun.nil _ _ _) ?_
              exact endJ t10_29 h (VC.sub (.c rfl <| .c rfl <| .c rfl <| .c rfl <| .c rfl <| .c rfl <| .c rfl <| .n _) (.n _))
            · have h := iteF hc h
              refine AWP.skip ?_
              exact endJ x_24.1 h (VC.sub (.c rfl <| .c rfl <| .c rfl <| .c rfl <| .c rfl <| .c rfl <| .c rfl <| .n _) (.n _))
    · have h := iteF hc h
      refine AWP.exit ?_
      exact endJ x_24.1 h (VC.sub (.c rfl <| .n _) (.n _))
theorem c26 {β1 : Bool} {β2 : Bool} (n : Nat) (a0 : (List R38)) (a1 : (List Int)) {r : (Int × Int)} (h : m26 n a0 a1 = some r) : Spec Try.prog 26 [] [.rd β1 a0.length (a0.flatMap encR38), .rd β2 a1.length (a1.flatMap (encI .i64))] [] (.tup [.sc (.int .i64 r.1), .sc (.int .i64 r.2)]) [] := by
  refine Spec.of (fn := Try.f26) Try.func26 Try.ntmps26 rfl rfl (le1 rfl) (fun w0 Zs Zb T0 ι0 => ?_)
  unfold m26 at h
  refine AWP.seq ?_
  refine AWP.region (.cons (.assign (lt1 rfl) (.const _ _ _)) <| .cons (.assign (lt1 rfl) (.const _ _ _)) <| ARun.nil _ _ _) ?_
  refine AWP.vc (s' := ⟨[(0, .rd β1 a0.length (a0.flatMap encR38)), (1, .rd β2 a1.length (a1.flatMap (encI .i64)))], []⟩) (VC.sub (.c rfl <| .c rfl <| .n _) (.n _)) ?_
  refine AWP.seq ?_
  refine AWP.seq ?_
  obtain ⟨y_1, hy_1, h⟩ := bindS h
  refine AWP.region (.cons (.move (lt1 rfl) (.tmp rfl)) <| .cons (.move (lt1 rfl) (.tmp rfl)) <| .cons (.call0 (bw := false) (lt1 rfl) (c44 (β1 := β1) (β2 := β2) n a0 a1 hy_1) (.cons (.tmp rfl) (.ren rfl) (.cons (.tmp rfl) (.ren rfl) (.nil))) rfl) <| .cons (.assign (lt1 rfl) (.tmp rfl)) <| ARun.nil _ _ _) ?_
  refine AWP.vc (s' := ⟨[(0, .rd β1 a0.length (a0.flatMap encR38)), (1, .rd β2 a1.length (a1.flatMap (encI .i64))), (6, .sc (.int .i64 y_1))], []⟩) (VC.sub (.c rfl <| .c rfl <| .c rfl <| .n _) (.n _)) ?_
  refine AWP.seq ?_
  refine AWP.region (.cons (.move (lt1 rfl) (.tmp rfl)) <| .cons (.neq (lt1 rfl) (.tmp rfl) (.const _ _ _)) <| ARun.nil _ _ _) ?_
  refine AWP.vc (s' := ⟨[(0, .rd β1 a0.length (a0.flatMap encR38)), (1, .rd β2 a1.length (a1.flatMap (encI .i64))), (6, .sc (.int .i64 y_1)), (11, .sc (.bool (!decide (y_1 = (0 : Int)))))], []⟩) (VC.sub (.c rfl <| .c rfl <| .c rfl <| .c rfl <| .n _) (.n _)) ?_
  refine AWP.cond (.tmp rfl) (fun hc => ?_) (fun hc => ?_)
  · have h := iteT hc h
    refine AWP.seq ?_
    refine AWP.region (.cons (.move (lt1 rfl) (.tmp rfl)) <| .cons (.assign (lt1 rfl) (.const _ _ _)) <| .cons (.assign (lt1 rfl) (.tmp rfl)) <| ARun.nil _ _ _) ?_
    refine AWP.ret ?_
    obtain rfl := Option.some.inj h
    refine retJ (Res.vc (s' := ⟨[(4, .sc (.int .i64 (0 : Int))), (5, .sc (.int .i64 y_1))], []⟩) (VC.sub (.c rfl <| .c rfl <| .n _) (.n _)) ?_)
    refine Res.drop (H := []) rfl ?_
    exact Res.of rfl (.cons (.tmp rfl) (.cons (.tmp rfl) (.nil))) rfl rfl
  · have h := iteF hc h
    refine AWP.skip ?_
    refine AWP.seq ?_
    obtain ⟨y_2, hy_2, h⟩ := bindS h
    refine AWP.region (.cons (.move (lt1 rfl) (.tmp rfl)) <| .cons (.move (lt1 rfl) (.tmp rfl)) <| .cons (.call0 (bw := false) (lt1 rfl) (c46 (β1 := β1) (β2 := β2) n a0 a1 false hy_2) (.cons (.tmp rfl) (.ren rfl) (.cons (.tmp rfl) (.ren rfl) (.cons (.const _ _ _) (.ren rfl) (.nil)))) rfl) <| .cons (.assign (lt1 rfl) (.tmp rfl)) <| .cons (.assign (lt1 rfl) (.const _ _ _)) <| ARun.nil _ _ _) ?_
    refine AWP.ret ?_
    obtain rfl := Option.some.inj h
    refine retJ (Res.vc (s' := ⟨[(4, .sc (.int .i64 y_2)), (5, .sc (.int .i64 (0 : Int)))], []⟩) (VC.sub (.c rfl <| .c rfl <| .n _) (.n _)) ?_)
    refine Res.drop (H := []) rfl ?_
    exact Res.of rfl (.cons (.tmp rfl) (.cons (.tmp rfl) (.nil))) rfl rfl
theorem c54 {β1 : Bool} (n : Nat) (a0 : (List Int)) {r : (List Int)} (h : m54 n a0 = some r) : Spec Try.prog 54 [] [.rd β1 a0.length (a0.flatMap (encI .i64))] [] (.rd false r.length (r.flatMap (encI .i64))) [] := by
  refine Spec.of (fn := Try.f54) Try.func54 Try.ntmps54 rfl rfl (le1 rfl) (fun w0 Zs Zb T0 ι0 => ?_)
  unfold m54 at h
  refine AWP.seq ?_
  refine AWP.region (.cons (.assign (lt1 rfl) (.const _ _ _)) <| ARun.nil _ _ _) ?_
  refine AWP.vc (s' := ⟨[(0, .rd β1 a0.length (a0.flatMap (encI .i64)))], []⟩) (VC.sub (.c rfl <| .n _) (.n _)) ?_
  refine AWP.seq ?_
  refine AWP.seq ?_
  refine AWP.regionE (S := fun q_1 => ⟨[(0, .rd β1 a0.length (a0.flatMap (encI .i64))), (4, .sc (.bool (decide (a0.length = 0 ∧ q_1 = 0))))], []⟩) (.cons (.move (lt1 rfl) (.tmp rfl)) <| .consE (AStepE.eqNil0 (lt1 rfl) (.tmp rfl) Try.underlying26) <| fun q_1 => ARunE.nilV q_1 (VC.sub (.c rfl <| .c rfl <| .n _) (.n _))) (fun q_1 => ?_)
  refine AWP.cond (.tmp rfl) (fun hc => ?_) (fun hc => ?_)
  · have h := cloneNil hc h
    refine AWP.seq ?_
    refine AWP.region (.cons (.assign (lt1 rfl) (.const _ _ _)) <| ARun.nil _ _ _) ?_
    refine AWP.ret ?_
    obtain rfl := Option.some.inj h
    refine retJ (Res.vc (s' := ⟨[(2, .rd false ([] : List Int).length (([] : List Int).flatMap (encI .i64)))], []⟩) (VC.trans (VC.nilRd (d := 2) false rfl) (VC.sub (.c rfl <| .n _) (.n _))) ?_)
    refine Res.drop (H := []) rfl ?_
    exact Res.of rfl (.cons (.tmp rfl) (.nil)) rfl rfl
  · refine AWP.skip ?_
    refine AWP.seq ?_
    obtain ⟨l1_2, hl1_2, h⟩ := bindS h
    refine AWP.region (.cons (.buildSlice (t := 1) (out := ([] : List Int).flatMap (encI .i64)) (lt1 rfl) (nm rfl) (.nil) Try.underlying26 zero3 el3 (by decide) (by decide) rfl (still_all (encI_still .i64) _)) <| .cons (.move (lt1 rfl) (.tmp rfl)) <| .cons (.app (enc := (encI .i64)) (lt1 rfl) (nm rfl) (.tmp rfl) (Src.rd (.tmp rfl) (flatMap_length (encI_len .i64) _) (one_all (encI_one .i64) _) (.inr (scal_all (encI_scal .i64) _))) Try.underlying26 ⟨_, Try.underlying26, by intro k hk; cases hk⟩ el3 rfl (encI_len .i64) rfl rfl (by decide) hl1_2) <| .cons (.assign (lt1 rfl) (.tmp rfl)) <| ARun.nil _ _ _) ?_
    refine AWP.ret ?_
    obtain rfl := Option.some.inj h
    refine retJ (Res.vc (s' := ⟨[(2, .rd false l1_2.length (l1_2.flatMap (encI .i64)))], []⟩) (VC.trans (VC.frz (d := 2) (t := 1) rfl rfl (encI_len .i64)) (VC.sub (.c rfl <| .n _) (.n _))) ?_)
    refine Res.drop (H := []) rfl ?_
    exact Res.of rfl (.cons (.tmp rfl) (.nil)) rfl rfl
theorem c70 {β1 : Bool} (n : Nat) (a0 : (List Int)) (a1 : Int) {r : Int} (h : m70 n a0 a1 = some r) : Spec Try.prog 70 [] [.rd β1 a0.length (a0.flatMap (encI .i64)), .sc (.int .i64 a1)] [] (.sc (.int .i64 r)) [] := by
  refine Spec.of (fn := Try.f70) Try.func70 Try.ntmps70 rfl rfl (le1 rfl) (fun w0 Zs Zb T0 ι0 => ?_)
  unfold m70 at h
  refine AWP.seq ?_
  refine AWP.region (.cons (.assign (lt1 rfl) (.const _ _ _)) <| ARun.nil _ _ _) ?_
  refine AWP.vc (s' := ⟨[(0, .rd β1 a0.length (a0.flatMap (encI .i64))), (1, .sc (.int .i64 a1))], []⟩) (VC.sub (.c rfl <| .c rfl <| .n _) (.n _)) ?_
  refine AWP.seq ?_
  refine AWP.seq ?_
  refine AWP.region (.cons (.move (lt1 rfl) (.tmp rfl)) <| .cons (.lenRd (lt1 rfl) (.tmp rfl) Try.underlying26) <| .cons (.move (lt1 rfl) (.const _ _ _)) <| ARun.nil _ _ _) ?_
  refine AWP.vc (s' := ⟨[(0, .rd β1 a0.length (a0.flatMap (encI .i64))), (1, .sc (.int .i64 a1)), (7, .sc (.int .i64 (a0.length : Int))), (8, .sc (.int .i64 (0 : Int)))], []⟩) (VC.sub (.c rfl <| .c rfl <| .c rfl <| .c rfl <| .n _) (.n _)) ?_
  refine AWP.joinB' (S := fun p_11 : Unit => ⟨[], []⟩) h (fun p_11 h => ?_) (fun k_12 h => ?_)
  · refine AWP.seq ?_
    refine AWP.region (.cons (.assign (lt1 rfl) (.const _ _ _)) <| ARun.nil _ _ _) ?_
    refine AWP.ret ?_
    obtain rfl := Option.some.inj h
    refine retJ (Res.vc (s' := ⟨[(4, .sc (.int .i64 (-1 : Int)))], []⟩) (VC.sub (.c rfl <| .n _) (.n _)) ?_)
    refine Res.drop (H := []) rfl ?_
    exact Res.of rfl (.cons (.tmp rfl) (.nil)) rfl rfl
  · refine AWP.vc (s' := ⟨[(0, .rd β1 a0.length (a0.flatMap (encI .i64))), (1, .sc (.int .i64 a1)), (7, .sc (.int .i64 (a0.length : Int))), (8, .sc (.int .i64 (0 : Int)))], []⟩) (VC.sub (.c rfl <| .c rfl <| .c rfl <| .c rfl <| .n _) (.n _)) ?_
    refine AWP.loopM (S := fun x_7 : Int => ⟨[(0, .rd β1 a0.length (a0.flatMap (encI .i64))), (1, .sc (.int .i64 a1)), (7, .sc (.int .i64 (a0.length : Int))), (8, .sc (.int .i64 x_7))], []⟩) (x := (0 : Int)) (fun nx_8 x_7 h => ?_) h
    unfold m70_L1 at h
    refine AWP.seq ?_
    refine AWP.region (.cons (.lss (lt1 rfl) (.tmp rfl) (.tmp rfl)) <| ARun.nil _ _ _) ?_
    refine AWP.vc (s' := ⟨[(0, .rd β1 a0.length (a0.flatMap (encI .i64))), (1, .sc (.int .i64 a1)), (7, .sc (.int .i64 (a0.length : Int))), (8, .sc (.int .i64 x_7)), (9, .sc (.bool (decide (x_7 < (a0.length : Int)))))], []⟩) (VC.sub (.c rfl <| .c rfl <| .c rfl <| .c rfl <| .c rfl <| .n _) (.n _)) ?_
    refine AWP.seq ?_
    refine AWP.cond (.tmp rfl) (fun hc => ?_) (fun hc => ?_)
    · have h := iteT hc h
      refine AWP.skip ?_
      refine AWP.seq ?_
      refine AWP.block ?_
      refine AWP.seq ?_
      refine AWP.region (.cons (.move (lt1 rfl) (.tmp rfl)) <| .cons (.assign (lt1 rfl) (.tmp rfl)) <| ARun.nil _ _ _) ?_
      refine AWP.vc (s' := ⟨[(0, .rd β1 a0.length (a0.flatMap (encI .i64))), (1, .sc (.int .i64 a1)), (7, .sc (.int .i64 (a0.length : Int))), (8, .sc (.int .i64 x_7)), (5, .sc (.int .i64 x_7))], []⟩) (VC.sub (.c rfl <| .c rfl <| .c rfl <| .c rfl <| .c rfl <| .n _) (.n _)) ?_
      refine AWP.seq ?_
      obtain ⟨y_9, hy_9, h⟩ := bindS h
      refine AWP.region (.cons (.move (lt1 rfl) (.tmp rfl)) <| .cons (.move (lt1 rfl) (.tmp rfl)) <| .cons (.move (lt1 rfl) (.tmp rfl)) <| .cons (.indexRd (enc := (encI .i64)) (lt1 rfl) (.tmp rfl) (.tmp rfl) Try.underlying26 sz3 (encI_len .i64) rfl hy_9) <| .cons (.loadR (v := .sc (.int .i64 y_9)) (lt1 rfl) (.tmp rfl) one3 rfl) <| .cons (.eql (lt1 rfl) (.tmp rfl) (.tmp rfl)) <| ARun.nil _ _ _) ?_
      refine AWP.vc (s' := ⟨[(0, .rd β1 a0.length (a0.flatMap (encI .i64))), (1, .sc (.int .i64 a1)), (7, .sc (.int .i64 (a0.length : Int))), (8, .sc (.int .i64 x_7)), (5, .sc (.int .i64 x_7)), (16, .sc (.bool (decide (a1 = y_9))))], []⟩) (VC.sub (.c rfl <| .c rfl <| .c rfl <| .c rfl <| .c rfl <| .c rfl <| .n _) (.n _)) ?_
      refine AWP.cond (.tmp rfl) (fun hc => ?_) (fun hc => ?_)
      · have h := iteT hc h
        refine AWP.seq ?_
        refine AWP.region (.cons (.move (lt1 rfl) (.tmp rfl)) <| .cons (.assign (lt1 rfl) (.tmp rfl)) <| ARun.nil _ _ _) ?_
        refine AWP.ret ?_
        obtain rfl := Option.some.inj h
        refine retJ (Res.vc (s' := ⟨[(4, .sc (.int .i64 x_7))], []⟩) (VC.sub (.c rfl <| .n _) (.n _)) ?_)
        refine Res.drop (H := []) rfl ?_
        exact Res.of rfl (.cons (.tmp rfl) (.nil)) rfl rfl
      · have h := iteF hc h
        refine AWP.skip ?_
        obtain ⟨t8_10, ht8_10, h⟩ := letS h
        refine AWP.region (.cons (.add (lt1 rfl) (.tmp rfl) (.const _ _ _)) <| .cons (.move (lt1 rfl) (.tmp rfl)) <| ARun.nil _ _ _) ?_
        exact endJ t8_10 h (by subst ht8_10; exact VC.sub (.c rfl <| .c rfl <| .c rfl <| .c rfl <| .n _) (.n _))
    · have h := iteF hc h
      refine AWP.exit ?_
      exact endJ () h (VC.sub (.n _) (.n _))
theorem c53 {β1 : Bool} (n : Nat) (a0 : (List Int)) (a1 : Int) {r : Bool} (h : m53 n a0 a1 = some r) : Spec Try.prog 53 [] [.rd β1 a0.length (a0.flatMap (encI .i64)), .sc (.int .i64 a1)] [] (.sc (.bool r)) [] := by
  refine Spec.of (fn := Try.f53) Try.func53 Try.ntmps53 rfl rfl (le1 rfl) (fun w0 Zs Zb T0 ι0 => ?_)
  unfold m53 at h
  refine AWP.seq ?_
  refine AWP.region (.cons (.assign (lt1 rfl) (.const _ _ _)) <| ARun.nil _ _ _) ?_
  refine AWP.vc (s' := ⟨[(0, .rd β1 a0.length (a0.flatMap (encI .i64))), (1, .sc (.int .i64 a1))], []⟩) (VC.sub (.c rfl <| .c rfl <| .n _) (.n _)) ?_
  refine AWP.seq ?_
  obtain ⟨y_1, hy_1, h⟩ := bindS h
  refine AWP.region (.cons (.move (lt1 rfl) (.tmp rfl)) <| .cons (.move (lt1 rfl) (.tmp rfl)) <| .cons (.call0 (bw := false) (lt1 rfl) (c70 (β1 := β1) n a0 a1 hy_1) (.cons (.tmp rfl) (.ren rfl) (.cons (.tmp rfl) (.ren rfl) (.nil))) rfl) <| .cons (.geq (lt1 rfl) (.tmp rfl) (.const _ _ _)) <| .cons (.assign (lt1 rfl) (.tmp rfl)) <| ARun.nil _ _ _) ?_
  refine AWP.ret ?_
  obtain rfl := Option.some.inj h
  refine retJ (Res.vc (s' := ⟨[(4, .sc (.bool (decide ((0 : Int) ≤ y_1))))], []⟩) (VC.sub (.c rfl <| .n _) (.n _)) ?_)
  refine Res.drop (H := []) rfl ?_
  exact Res.of rfl (.cons (.tmp rfl) (.nil)) rfl rfl
theorem c58F (n : Nat) : ∀ (f : Nat) {β1 : Bool} (a0_b0_b : (List Int)) (a1_b0 : (List R38)) (a2_b0 : Bool) (a3_b0 : Bool) (a4_b0 : Int) (a5_b0 : (List Int)) {r : ((List Int) × Bool × Int × (List Int))}, m58F n f a0_b0_b a1_b0 a2_b0 a3_b0 a4_b0 a5_b0 = some r → Spec Try.prog 58 [1, 3, 4, 5, 6, 7, 8] [.ptr 1 0, .ptr 3 0, .ptr 4 0, .ptr 5 0, .ptr 6 0, .ptr 7 0, .ptr 8 0] [(1, ⟨26, false, [.own 2 1 0 a0_b0_b.length]⟩), (2, ⟨3, true, a0_b0_b.flatMap (encI .i64)⟩), (3, ⟨30, false, [.rd β1 a1_b0.length (a1_b0.flatMap encR38)]⟩), (4, ⟨4, false, [.sc (.bool a2_b0)]⟩), (5, ⟨4, false, [.sc (.bool a3_b0)]⟩), (6, ⟨3, false, [.sc (.int .i64 a4_b0)]⟩), (7, ⟨26, false, [.rd false a5_b0.length (a5_b0.flatMap (encI .i64))]⟩), (8, ⟨1, false, [.clo (.func 58) [] [.ptr 1 0, .ptr 3 0, .ptr 4 0, .ptr 5 0, .ptr 6 0, .ptr 7 0, .ptr 8 0]]⟩)] (.tup []) [(1, ⟨26, false, [.own 2 1 0 r.1.length]⟩), (2, ⟨3, true, r.1.flatMap (encI .i64)⟩), (3, ⟨30, false, [.rd β1 a1_b0.length (a1_b0.flatMap encR38)]⟩), (4, ⟨4, false, [.sc (.bool a2_b0)]⟩), (5, ⟨4, false, [.sc (.bool r.2.1)]⟩), (6, ⟨3, false, [.sc (.int .i64 r.2.2.1)]⟩), (7, ⟨26, false, [.rd false r.2.2.2.length (r.2.2.2.flatMap (encI .i64))]⟩), (8, ⟨1, false, [.clo (.func 58) [] [.ptr 1 0, .ptr 3 0, .ptr 4 0, .ptr 5 0, .ptr 6 0, .ptr 7 0, .ptr 8 0]]⟩)] := by
  intro f
  induction f with
  | zero =>
    intro β1 a0_b0_b a1_b0 a2_b0 a3_b0 a4_b0 a5_b0 r h
    cases (show (none : Option ((List Int) × Bool × Int × (List Int))) = some r from h)
  | succ f ih =>
  intro β1 a0_b0_b a1_b0 a2_b0 a3_b0 a4_b0 a5_b0 r h
  replace h : m58B n (m58F n f) a0_b0_b a1_b0 a2_b0 a3_b0 a4_b0 a5_b0 = some r := h
  generalize m58F n f = rc_0 at h ih
  refine Spec.of (fn := Try.f58) Try.func58 Try.ntmps58 rfl rfl (le1 rfl) (fun w0 Zs Zb T0 ι0 => ?_)
  unfold m58B at h
  refine AWP.seq ?_
  refine AWP.seq ?_
  refine AWP.region (.cons (.loadP (lt1 rfl) (.tmp rfl) one26 rfl rfl rfl) <| .cons (.lenOwn (lt1 rfl) (.tmp rfl) Try.underlying26) <| .cons (.loadP (lt1 rfl) (.tmp rfl) one30 rfl rfl rfl) <| .cons (.lenRd (lt1 rfl) (.tmp rfl) Try.underlying30) <| .cons (.eql (lt1 rfl) (.tmp rfl) (.tmp rfl)) <| ARun.nil _ _ _) ?_
  refine AWP.vc (s' := ⟨[(0, .ptr 1 0), (1, .ptr 3 0), (2, .ptr 4 0), (3, .ptr 5 0), (4, .ptr 6 0), (5, .ptr 7 0), (6, .ptr 8 0), (13, .sc (.bool (decide ((a0_b0_b.length : Int) = (a1_b0.length : Int)))))], [(1, ⟨26, false, [.own 2 1 0 a0_b0_b.length]⟩), (2, ⟨3, true, a0_b0_b.flatMap (encI .i64)⟩), (3, ⟨30, false, [.rd β1 a1_b0.length (a1_b0.flatMap encR38)]⟩), (4, ⟨4, false, [.sc (.bool a2_b0)]⟩), (5, ⟨4, false, [.sc (.bool a3_b0)]⟩), (6, ⟨3, false, [.sc (.int .i64 a4_b0)]⟩), (7, ⟨26, false, [.rd false a5_b0.length (a5_b0.flatMap (encI .i64))]⟩), (8, ⟨1, false, [.clo (.func 58) [] [.ptr 1 0, .ptr 3 0, .ptr 4 0, .ptr 5 0, .ptr 6 0, .ptr 7 0, .ptr 8 0]]⟩)]⟩) (VC.sub (.c rfl <| .c rfl <| .c rfl <| .c rfl <| .c rfl <| .c rfl <| .c rfl <| .c rfl <| .n _) (.c rfl <| .c rfl <| .c rfl <| .c rfl <| .c rfl <| .c rfl <| .c rfl <| .c rfl <| .n _)) ?_
  refine AWP.cond (.tmp rfl) (fun hc => ?_) (fun hc => ?_)
  · have h := iteT hc h
    refine AWP.seq ?_
    refine AWP.seq ?_
    obtain ⟨y_1, hy_1, h⟩ := bindS h
    refine AWP.region (.cons (.loadP (lt1 rfl) (.tmp rfl) one30 rfl rfl rfl) <| .cons (.loadP (lt1 rfl) (.tmp rfl) one26 rfl rfl rfl) <| .cons (.loadP (lt1 rfl) (.tmp rfl) one4 rfl rfl rfl) <| .cons (.call0 (bw := true) (lt1 rfl) (c46 (β1 := β1) (β2 := true) n a1_b0 a0_b0_b a2_b0 hy_1) (.cons (.tmp rfl) (.ren rfl) (.cons (.tmp rfl) (.lendRow rfl rfl (encI_len .i64) rfl) (.cons (.tmp rfl) (.ren rfl) (.nil)))) rfl) <| .cons (.assign (lt1 rfl) (.tmp rfl)) <| ARun.nil _ _ _) ?_
    refine AWP.vc (s' := ⟨[(0, .ptr 1 0), (3, .ptr 5 0), (4, .ptr 6 0), (5, .ptr 7 0), (7, .sc (.int .i64 y_1))], [(1, ⟨26, false, [.own 2 1 0 a0_b0_b.length]⟩), (2, ⟨3, true, a0_b0_b.flatMap (encI .i64)⟩), (3, ⟨30, false, [.rd β1 a1_b0.length (a1_b0.flatMap encR38)]⟩), (4, ⟨4, false, [.sc (.bool a2_b0)]⟩), (5, ⟨4, false, [.sc (.bool a3_b0)]⟩), (6, ⟨3, false, [.sc (.int .i64 a4_b0)]⟩), (7, ⟨26, false, [.rd false a5_b0.length (a5_b0.flatMap (encI .i64))]⟩), (8, ⟨1, false, [.clo (.func 58) [] [.ptr 1 0, .ptr 3 0, .ptr 4 0, .ptr 5 0, .ptr 6 0, .ptr 7 0, .ptr 8 0]]⟩)]⟩) (VC.sub (.c rfl <| .c rfl <| .c rfl <| .c rfl <| .c rfl <| .n _) (.c rfl <| .c rfl <| .c rfl <| .c rfl <| .c rfl <| .c rfl <| .c rfl <| .c rfl <| .n _)) ?_
    refine AWP.seq ?_
    refine AWP.region (.cons (.loadP (lt1 rfl) (.tmp rfl) one4 rfl rfl rfl) <| .cons (.not (lt1 rfl) (.tmp rfl)) <| .cons (.move (lt1 rfl) (.tmp rfl)) <| .guard (j := 2) (dj := 20) rfl (lt1 rfl) rfl (lt1 rfl) (fun hg => .move (lt1 rfl) (.tmp rfl)) <| .guard (j := 2) (dj := 20) rfl (lt1 rfl) rfl (lt1 rfl) (fun hg => .loadP (lt1 rfl) (.tmp rfl) one3 rfl rfl rfl) <| .guard (j := 2) (dj := 20) rfl (lt1 rfl) rfl (lt1 rfl) (fun hg => .lss (lt1 rfl) (.gd hg (.tmp rfl)) (.gd hg (.tmp rfl))) <| .cons (.pickOr (lt1 rfl) (.tmp rfl) (.const _ _ _) (.tmp rfl)) <| ARun.nil _ _ _) ?_
    refine AWP.vc (s' := ⟨[(0, .ptr 1 0), (3, .ptr 5 0), (4, .ptr 6 0), (5, .ptr 7 0), (7, .sc (.int .i64 y_1)), (24, .sc (.bool ((!a3_b0) || (decide (y_1 < a4_b0)))))], [(1, ⟨26, false, [.own 2 1 0 a0_b0_b.length]⟩), (2, ⟨3, true, a0_b0_b.flatMap (encI .i64)⟩), (3, ⟨30, false, [.rd β1 a1_b0.length (a1_b0.flatMap encR38)]⟩), (4, ⟨4, false, [.sc (.bool a2_b0)]⟩), (5, ⟨4, false, [.sc (.bool a3_b0)]⟩), (6, ⟨3, false, [.sc (.int .i64 a4_b0)]⟩), (7, ⟨26, false, [.rd false a5_b0.length (a5_b0.flatMap (encI .i64))]⟩), (8, ⟨1, false, [.clo (.func 58) [] [.ptr 1 0, .ptr 3 0, .ptr 4 0, .ptr 5 0, .ptr 6 0, .ptr 7 0, .ptr 8 0]]⟩)]⟩) (VC.sub (.c rfl <| .c rfl <| .c rfl <| .c rfl <| .c rfl <| .c rfl <| .n _) (.c rfl <| .c rfl <| .c rfl <| .c rfl <| .c rfl <| .c rfl <| .c rfl <| .c rfl <| .n _)) ?_
    refine AWP.join' (S := fun p_3 : Bool × Int × (List Int) => ⟨[], [(1, ⟨26, false, [.own 2 1 0 a0_b0_b.length]⟩), (2, ⟨3, true, a0_b0_b.flatMap (encI .i64)⟩), (3, ⟨30, false, [.rd β1 a1_b0.length (a1_b0.flatMap encR38)]⟩), (4, ⟨4, false, [.sc (.bool a2_b0)]⟩), (5, ⟨4, false, [.sc (.bool p_3.1)]⟩), (6, ⟨3, false, [.sc (.int .i64 p_3.2.1)]⟩), (7, ⟨26, false, [.rd false p_3.2.2.length (p_3.2.2.flatMap (encI .i64))]⟩), (8, ⟨1, false, [.clo (.func 58) [] [.ptr 1 0, .ptr 3 0, .ptr 4 0, .ptr 5 0, .ptr 6 0, .ptr 7 0, .ptr 8 0]]⟩)]⟩) h (fun p_3 h => ?_) (fun k_4 h => ?_)
    · refine AWP.ret ?_
      obtain rfl := Option.some.inj h
      refine retJ (Res.vc (s' := ⟨[], [(1, ⟨26, false, [.own 2 1 0 a0_b0_b.length]⟩), (2, ⟨3, true, a0_b0_b.flatMap (encI .i64)⟩), (3, ⟨30, false, [.rd β1 a1_b0.length (a1_b0.flatMap encR38)]⟩), (4, ⟨4, false, [.sc (.bool a2_b0)]⟩), (5, ⟨4, false, [.sc (.bool p_3.1)]⟩), (6, ⟨3, false, [.sc (.int .i64 p_3.2.1)]⟩), (7, ⟨26, false, [.rd false p_3.2.2.length (p_3.2.2.flatMap (encI .i64))]⟩), (8, ⟨1, false, [.clo (.func 58) [] [.ptr 1 0, .ptr 3 0, .ptr 4 0, .ptr 5 0, .ptr 6 0, .ptr 7 0, .ptr 8 0]]⟩)]⟩) (VC.sub (.n _) (.c rfl <| .c rfl <| .c rfl <| .c rfl <| .c rfl <| .c rfl <| .c rfl <| .c rfl <| .n _)) ?_)
      refine Res.sub (H := [(1, ⟨26, false, [.own 2 1 0 a0_b0_b.length]⟩), (2, ⟨3, true, a0_b0_b.flatMap (encI .i64)⟩), (3, ⟨30, false, [.rd β1 a1_b0.length (a1_b0.flatMap encR38)]⟩), (4, ⟨4, false, [.sc (.bool a2_b0)]⟩), (5, ⟨4, false, [.sc (.bool p_3.1)]⟩), (6, ⟨3, false, [.sc (.int .i64 p_3.2.1)]⟩), (7, ⟨26, false, [.rd false p_3.2.2.length (p_3.2.2.flatMap (encI .i64))]⟩), (8, ⟨1, false, [.clo (.func 58) [] [.ptr 1 0, .ptr 3 0, .ptr 4 0, .ptr 5 0, .ptr 6 0, .ptr 7 0, .ptr 8 0]]⟩)]) (.c rfl <| .c rfl <| .c rfl <| .c rfl <| .c rfl <| .c rfl <| .c rfl <| .c rfl <| .n _) ?_
      exact Res.of rfl (.nil) rfl rfl
    · refine AWP.cond (.tmp rfl) (fun hc => ?_) (fun hc => ?_)
      · have h := iteT hc h
        obtain ⟨y_2, hy_2, h⟩ := bindS h
        refine AWP.region (.cons (.loadP (lt1 rfl) (.tmp rfl) one26 rfl rfl rfl) <| .cons (.call0 (bw := true) (lt1 rfl) (c54 (β1 := true) n a0_b0_b hy_2) (.cons (.tmp rfl) (.lendRow rfl rfl (encI_len .i64) rfl) (.nil)) rfl) <| .cons (.move (lt1 rfl) (.tmp rfl)) <| .cons (.storeP (.tmp rfl) (.tmp rfl) sz26 rfl (lt1 rfl) rfl (by intro h; cases h) rfl) <| .cons (.storeP (.tmp rfl) (.tmp rfl) sz3 rfl (lt1 rfl) rfl (by intro h; cases h) rfl) <| .cons (.storeP (.tmp rfl) (.const _ _ _) sz4 rfl (lt1 rfl) rfl (by intro h; cases h) rfl) <| ARun.nil _ _ _) ?_
        exact endJ (true, y_1, y_2) h (VC.sub (.n _) (.c rfl <| .c rfl <| .c rfl <| .c rfl <| .c rfl <| .c rfl <| .c rfl <| .c rfl <| .n _))
      · have h := iteF hc h
        refine AWP.skip ?_
        exact endJ (a3_b0, a4_b0, a5_b0) h (VC.sub (.n _) (.c rfl <| .c rfl <| .c rfl <| .c rfl <| .c rfl <| .c rfl <| .c rfl <| .c rfl <| .n _))
  · have h := iteF hc h
    refine AWP.skip ?_
    refine AWP.seq ?_
    refine AWP.region (.cons (.loadP (lt1 rfl) (.tmp rfl) one30 rfl rfl rfl) <| .cons (.lenRd (lt1 rfl) (.tmp rfl) Try.underlying30) <| .cons (.move (lt1 rfl) (.const _ _ _)) <| ARun.nil _ _ _) ?_
    refine AWP.vc (s' := ⟨[(0, .ptr 1 0), (6, .ptr 8 0), (29, .sc (.int .i64 (a1_b0.length : Int))), (30, .sc (.int .i64 (0 : Int)))], [(1, ⟨26, false, [.own 2 1 0 a0_b0_b.length]⟩), (2, ⟨3, true, a0_b0_b.flatMap (encI .i64)⟩), (3, ⟨30, false, [.rd β1 a1_b0.length (a1_b0.flatMap encR38)]⟩), (4, ⟨4, false, [.sc (.bool a2_b0)]⟩), (5, ⟨4, false, [.sc (.bool a3_b0)]⟩), (6, ⟨3, false, [.sc (.int .i64 a4_b0)]⟩), (7, ⟨26, false, [.rd false a5_b0.length (a5_b0.flatMap (encI .i64))]⟩), (8, ⟨1, false, [.clo (.func 58) [] [.ptr 1 0, .ptr 3 0, .ptr 4 0, .ptr 5 0, .ptr 6 0, .ptr 7 0, .ptr 8 0]]⟩)]⟩) (VC.sub (.c rfl <| .c rfl <| .c rfl <| .c rfl <| .n _) (.c rfl <| .c rfl <| .c rfl <| .c rfl <| .c rfl <| .c rfl <| .c rfl <| .c rfl <| .n _)) ?_
    refine AWP.joinB' (S := fun p_30 : (List Int) × Bool × Int × (List Int) => ⟨[], [(1, ⟨26, false, [.own 2 1 0 p_30.1.length]⟩), (2, ⟨3, true, p_30.1.flatMap (encI .i64)⟩), (3, ⟨30, false, [.rd β1 a1_b0.length (a1_b0.flatMap encR38)]⟩), (4, ⟨4, false, [.sc (.bool a2_b0)]⟩), (5, ⟨4, false, [.sc (.bool p_30.2.1)]⟩), (6, ⟨3, false, [.sc (.int .i64 p_30.2.2.1)]⟩), (7, ⟨26, false, [.rd false p_30.2.2.2.length (p_30.2.2.2.flatMap (encI .i64))]⟩), (8, ⟨1, false, [.clo (.func 58) [] [.ptr 1 0, .ptr 3 0, .ptr 4 0, .ptr 5 0, .ptr 6 0, .ptr 7 0, .ptr 8 0]]⟩)]⟩) h (fun p_30 h => ?_) (fun k_31 h => ?_)
    · obtain rfl := Option.some.inj h
      refine norJ (Res.vc (s' := ⟨[], [(1, ⟨26, false, [.own 2 1 0 p_30.1.length]⟩), (2, ⟨3, true, p_30.1.flatMap (encI .i64)⟩), (3, ⟨30, false, [.rd β1 a1_b0.length (a1_b0.flatMap encR38)]⟩), (4, ⟨4, false, [.sc (.bool a2_b0)]⟩), (5, ⟨4, false, [.sc (.bool p_30.2.1)]⟩), (6, ⟨3, false, [.sc (.int .i64 p_30.2.2.1)]⟩), (7, ⟨26, false, [.rd false p_30.2.2.2.length (p_30.2.2.2.flatMap (encI .i64))]⟩), (8, ⟨1, false, [.clo (.func 58) [] [.ptr 1 0, .ptr 3 0, .ptr 4 0, .ptr 5 0, .ptr 6 0, .ptr 7 0, .ptr 8 0]]⟩)]⟩) (VC.sub (.n _) (.c rfl <| .c rfl <| .c rfl <| .c rfl <| .c rfl <| .c rfl <| .c rfl <| .c rfl <| .n _)) ?_)
      refine Res.sub (H := [(1, ⟨26, false, [.own 2 1 0 p_30.1.length]⟩), (2, ⟨3, true, p_30.1.flatMap (encI .i64)⟩), (3, ⟨30, false, [.rd β1 a1_b0.length (a1_b0.flatMap encR38)]⟩), (4, ⟨4, false, [.sc (.bool a2_b0)]⟩), (5, ⟨4, false, [.sc (.bool p_30.2.1)]⟩), (6, ⟨3, false, [.sc (.int .i64 p_30.2.2.1)]⟩), (7, ⟨26, false, [.rd false p_30.2.2.2.length (p_30.2.2.2.flatMap (encI .i64))]⟩), (8, ⟨1, false, [.clo (.func 58) [] [.ptr 1 0, .ptr 3 0, .ptr 4 0, .ptr 5 0, .ptr 6 0, .ptr 7 0, .ptr 8 0]]⟩)]) (.c rfl <| .c rfl <| .c rfl <| .c rfl <| .c rfl <| .c rfl <| .c rfl <| .c rfl <| .n _) ?_
      exact Res.of rfl (.nil) rfl rfl
    · refine AWP.vc (s' := ⟨[(0, .ptr 1 0), (6, .ptr 8 0), (29, .sc (.int .i64 (a1_b0.length : Int))), (30, .sc (.int .i64 (0 : Int)))], [(1, ⟨26, false, [.own 2 1 0 a0_b0_b.length]⟩), (2, ⟨3, true, a0_b0_b.flatMap (encI .i64)⟩), (3, ⟨30, false, [.rd β1 a1_b0.length (a1_b0.flatMap encR38)]⟩), (4, ⟨4, false, [.sc (.bool a2_b0)]⟩), (5, ⟨4, false, [.sc (.bool a3_b0)]⟩), (6, ⟨3, false, [.sc (.int .i64 a4_b0)]⟩), (7, ⟨26, false, [.rd false a5_b0.length (a5_b0.flatMap (encI .i64))]⟩), (8, ⟨1, false, [.clo (.func 58) [] [.ptr 1 0, .ptr 3 0, .ptr 4 0, .ptr 5 0, .ptr 6 0, .ptr 7 0, .ptr 8 0]]⟩)]⟩) (VC.sub (.c rfl <| .c rfl <| .c rfl <| .c rfl <| .n _) (.c rfl <| .c rfl <| .c rfl <| .c rfl <| .c rfl <| .c rfl <| .c rfl <| .c rfl <| .n _)) ?_
      refine AWP.loopM (S := fun x_21 : Int × (List Int) × Bool × Int × (List Int) => ⟨[(0, .ptr 1 0), (6, .ptr 8 0), (29, .sc (.int .i64 (a1_b0.length : Int))), (30, .sc (.int .i64 x_21.1))], [(1, ⟨26, false, [.own 2 1 0 x_21.2.1.length]⟩), (2, ⟨3, true, x_21.2.1.flatMap (encI .i64)⟩), (3, ⟨30, false, [.rd β1 a1_b0.length (a1_b0.flatMap encR38)]⟩), (4, ⟨4, false, [.sc (.bool a2_b0)]⟩), (5, ⟨4, false, [.sc (.bool x_21.2.2.1)]⟩), (6, ⟨3, false, [.sc (.int .i64 x_21.2.2.2.1)]⟩), (7, ⟨26, false, [.rd false x_21.2.2.2.2.length (x_21.2.2.2.2.flatMap (encI .i64))]⟩), (8, ⟨1, false, [.clo (.func 58) [] [.ptr 1 0, .ptr 3 0, .ptr 4 0, .ptr 5 0, .ptr 6 0, .ptr 7 0, .ptr 8 0]]⟩)]⟩) (x := ((0 : Int), a0_b0_b, a3_b0, a4_b0, a5_b0)) (fun nx_22 x_21 h => ?_) h
      unfold m58_L1 at h
      refine AWP.seq ?_
      refine AWP.region (.cons (.lss (lt1 rfl) (.tmp rfl) (.tmp rfl)) <| ARun.nil _ _ _) ?_
      refine AWP.vc (s' := ⟨[(0, .ptr 1 0), (6, .ptr 8 0), (29, .sc (.int .i64 (a1_b0.length : Int))), (30, .sc (.int .i64 x_21.1)), (31, .sc (.bool (decide (x_21.1 < (a1_b0.length : Int)))))], [(1, ⟨26, false, [.own 2 1 0 x_21.2.1.length]⟩), (2, ⟨3, true, x_21.2.1.flatMap (encI .i64)⟩), (3, ⟨30, false, [.rd β1 a1_b0.length (a1_b0.flatMap encR38)]⟩), (4, ⟨4, false, [.sc (.bool a2_b0)]⟩), (5, ⟨4, false, [.sc (.bool x_21.2.2.1)]⟩), (6, ⟨3, false, [.sc (.int .i64 x_21.2.2.2.1)]⟩), (7, ⟨26, false, [.rd false x_21.2.2.2.2.length (x_21.2.2.2.2.flatMap (encI .i64))]⟩), (8, ⟨1, false, [.clo (.func 58) [] [.ptr 1 0, .ptr 3 0, .ptr 4 0, .ptr 5 0, .ptr 6 0, .ptr 7 0, .ptr 8 0]]⟩)]⟩) (VC.sub (.c rfl <| .c rfl <| .c rfl <| .c rfl <| .c rfl <| .n _) (.c rfl <| .c rfl <| .c rfl <| .c rfl <| .c rfl <| .c rfl <| .c rfl <| .c rfl <| .n _)) ?_
      refine AWP.seq ?_
      refine AWP.cond (.tmp rfl) (fun hc => ?_) (fun hc => ?_)
      · have h := iteT hc h
        refine AWP.skip ?_
        refine AWP.seq ?_
        refine AWP.block ?_
        refine AWP.seq ?_
        refine AWP.region (.cons (.move (lt1 rfl) (.tmp rfl)) <| .cons (.assign (lt1 rfl) (.tmp rfl)) <| ARun.nil _ _ _) ?_
        refine AWP.vc (s' := ⟨[(0, .ptr 1 0), (6, .ptr 8 0), (29, .sc (.int .i64 (a1_b0.length : Int))), (30, .sc (.int .i64 x_21.1)), (8, .sc (.int .i64 x_21.1))], [(1, ⟨26, false, [.own 2 1 0 x_21.2.1.length]⟩), (2, ⟨3, true, x_21.2.1.flatMap (encI .i64)⟩), (3, ⟨30, false, [.rd β1 a1_b0.length (a1_b0.flatMap encR38)]⟩), (4, ⟨4, false, [.sc (.bool a2_b0)]⟩), (5, ⟨4, false, [.sc (.bool x_21.2.2.1)]⟩), (6, ⟨3, false, [.sc (.int .i64 x_21.2.2.2.1)]⟩), (7, ⟨26, false, [.rd false x_21.2.2.2.2.length (x_21.2.2.2.2.flatMap (encI .i64))]⟩), (8, ⟨1, false, [.clo (.func 58) [] [.ptr 1 0, .ptr 3 0, .ptr 4 0, .ptr 5 0, .ptr 6 0, .ptr 7 0, .ptr 8 0]]⟩)]⟩) (VC.sub (.c rfl <| .c rfl <| .c rfl <| .c rfl <| .c rfl <| .n _) (.c rfl <| .c rfl <| .c rfl <| .c rfl <| .c rfl <| .c rfl <| .c rfl <| .c rfl <| .n _)) ?_
        refine AWP.seq ?_
        obtain ⟨y_23, hy_23, h⟩ := bindS h
        refine AWP.region (.cons (.loadP (lt1 rfl) (.tmp rfl) one26 rfl rfl rfl) <| .cons (.move (lt1 rfl) (.tmp rfl)) <| .cons (.call0 (bw := true) (lt1 rfl) (c53 (β1 := true) n x_21.2.1 x_21.1 hy_23) (.cons (.tmp rfl) (.lendRow rfl rfl (encI_len .i64) rfl) (.cons (.tmp rfl) (.ren rfl) (.nil))) rfl) <| .cons (.not (lt1 rfl) (.tmp rfl)) <| ARun.nil _ _ _) ?_
        refine AWP.vc (s' := ⟨[(0, .ptr 1 0), (6, .ptr 8 0), (29, .sc (.int .i64 (a1_b0.length : Int))), (30, .sc (.int .i64 x_21.1)), (8, .sc (.int .i64 x_21.1)), (36, .sc (.bool (!y_23)))], [(1, ⟨26, false, [.own 2 1 0 x_21.2.1.length]⟩), (2, ⟨3, true, x_21.2.1.flatMap (encI .i64)⟩), (3, ⟨30, false, [.rd β1 a1_b0.length (a1_b0.flatMap encR38)]⟩), (4, ⟨4, false, [.sc (.bool a2_b0)]⟩), (5, ⟨4, false, [.sc (.bool x_21.2.2.1)]⟩), (6, ⟨3, false, [.sc (.int .i64 x_21.2.2.2.1)]⟩), (7, ⟨26, false, [.rd false x_21.2.2.2.2.length (x_21.2.2.2.2.flatMap (encI .i64))]⟩), (8, ⟨1, false, [.clo (.func 58) [] [.ptr 1 0, .ptr 3 0, .ptr 4 0, .ptr 5 0, .ptr 6 0, .ptr 7 0, .ptr 8 0]]⟩)]⟩) (VC.sub (.c rfl <| .c rfl <| .c rfl <| .c rfl <| .c rfl <| .c rfl <| .n _) (.c rfl <| .c rfl <| .c rfl <| .c rfl <| .c rfl <| .c rfl <| .c rfl <| .c rfl <| .n _)) ?_
        refine AWP.join' (S := fun p_27 : (List Int) × Bool × Int × (List Int) => ⟨[(0, .ptr 1 0), (6, .ptr 8 0), (29, .sc (.int .i64 (a1_b0.length : Int))), (30, .sc (.int .i64 x_21.1))], [(1, ⟨26, false, [.own 2 1 0 p_27.1.length]⟩), (2, ⟨3, true, p_27.1.flatMap (encI .i64)⟩), (3, ⟨30, false, [.rd β1 a1_b0.length (a1_b0.flatMap encR38)]⟩), (4, ⟨4, false, [.sc (.bool a2_b0)]⟩), (5, ⟨4, false, [.sc (.bool p_27.2.1)]⟩), (6, ⟨3, false, [.sc (.int .i64 p_27.2.2.1)]⟩), (7, ⟨26, false, [.rd false p_27.2.2.2.length (p_27.2.2.2.flatMap (encI .i64))]⟩), (8, ⟨1, false, [.clo (.func 58) [] [.ptr 1 0, .ptr 3 0, .ptr 4 0, .ptr 5 0, .ptr 6 0, .ptr 7 0, .ptr 8 0]]⟩)]⟩) h (fun p_27 h => ?_) (fun k_28 h => ?_)
        · obtain ⟨t30_29, ht30_29, h⟩ := letS h
          refine AWP.region (.cons (.add (lt1 rfl) (.tmp rfl) (.const _ _ _)) <| .cons (.move (lt1 rfl) (.tmp rfl)) <| ARun.nil _ _ _) ?_
          exact endJ (t30_29, p_27.1, p_27.2.1, p_27.2.2.1, p_27.2.2.2) h (by subst ht30_29; exact VC.sub (.c rfl <| .c rfl <| .c rfl <| .c rfl <| .n _) (.c rfl <| .c rfl <| .c rfl <| .c rfl <| .c rfl <| .c rfl <| .c rfl <| .c rfl <| .n _))
        · refine AWP.cond (.tmp rfl) (fun hc => ?_) (fun hc => ?_)
          · have h := iteT hc h
            refine AWP.seq ?_
            obtain ⟨l2_24, hl2_24, h⟩ := bindS h
            refine AWP.region (.cons (.loadP (lt1 rfl) (.tmp rfl) one26 rfl rfl rfl) <| .cons (.move (lt1 rfl) (.tmp rfl)) <| .cons (.buildSlice (t := 9) (out := ([x_21.1] : List Int).flatMap (encI .i64)) (lt1 rfl) (nm rfl) (.cons (.tmp rfl) (by first | exact ⟨rfl, rfl⟩ | rfl) (.nil)) Try.underlying26 zero3 el3 (by decide) (by decide) rfl (still_all (encI_still .i64) _)) <| .cons (.app (enc := (encI .i64)) (lt1 rfl) (nm rfl) (.tmp rfl) (Src.own (.tmp rfl) rfl (lendAll (encI_len .i64) _) (flatMap_length (encI_len .i64) _) (one_all (encI_one .i64) _) (.inl rfl)) Try.underlying26 ⟨_, Try.underlying26, by intro k hk; cases hk⟩ el3 rfl (encI_len .i64) rfl rfl (by decide) hl2_24) <| .cons (.storeP (.tmp rfl) (.tmp rfl) sz26 rfl (lt1 rfl) rfl (by intro h; cases h) rfl) <| ARun.nil _ _ _) ?_
            refine AWP.vc (s' := ⟨[(0, .ptr 1 0), (6, .ptr 8 0), (29, .sc (.int .i64 (a1_b0.length : Int))), (30, .sc (.int .i64 x_21.1))], [(2, ⟨3, true, l2_24.flatMap (encI .i64)⟩), (1, ⟨26, false, [.own 2 1 0 l2_24.length]⟩), (3, ⟨30, false, [.rd β1 a1_b0.length (a1_b0.flatMap encR38)]⟩), (4, ⟨4, false, [.sc (.bool a2_b0)]⟩), (5, ⟨4, false, [.sc (.bool x_21.2.2.1)]⟩), (6, ⟨3, false, [.sc (.int .i64 x_21.2.2.2.1)]⟩), (7, ⟨26, false, [.rd false x_21.2.2.2.2.length (x_21.2.2.2.2.flatMap (encI .i64))]⟩), (8, ⟨1, false, [.clo (.func 58) [] [.ptr 1 0, .ptr 3 0, .ptr 4 0, .ptr 5 0, .ptr 6 0, .ptr 7 0, .ptr 8 0]]⟩)]⟩) (VC.sub (.c rfl <| .c rfl <| .c rfl <| .c rfl <| .n _) (.c rfl <| .c rfl <| .c rfl <| .c rfl <| .c rfl <| .c rfl <| .c rfl <| .c rfl <| .n _)) ?_
            refine AWP.seq ?_
            obtain ⟨y_25, hy_25, h⟩ := bindS h
            refine AWP.region (.cons (.loadP (lt1 rfl) (.tmp rfl) one1 rfl rfl rfl) <| .cons (.callV (us' := []) (avs := []) (cs' := [.ptr 1 0, .ptr 3 0, .ptr 4 0, .ptr 5 0, .ptr 6 0, .ptr 7 0, .ptr 8 0]) (σ := sgT [(1, 1), (2, 2), (3, 3), (4, 4), (5, 5), (6, 6), (7, 7), (8, 8)]) (bw := false) (lt1 rfl) (.tmp rfl) (ih (β1 := β1) l2_24 a1_b0 a2_b0 x_21.2.2.1 x_21.2.2.2.1 x_21.2.2.2.2 hy_25) (.nil) (.nil) (.cons (.ren rfl) (.cons (.ren rfl) (.cons (.ren rfl) (.cons (.ren rfl) (.cons (.ren rfl) (.cons (.ren rfl) (.cons (.ren rfl) (.nil)))))))) (CallOk.mk' (.c rfl (.c rfl (.c rfl (.c rfl (.c rfl (.c rfl (.c rfl (.c rfl (.n))))))))) rfl) (fun _ h => by cases h)) <| ARun.nil _ _ _) ?_
            refine AWP.vc (s' := ⟨[(0, .ptr 1 0), (6, .ptr 8 0), (29, .sc (.int .i64 (a1_b0.length : Int))), (30, .sc (.int .i64 x_21.1))], [(1, ⟨26, false, [.own 2 1 0 y_25.1.length]⟩), (2, ⟨3, true, y_25.1.flatMap (encI .i64)⟩), (3, ⟨30, false, [.rd β1 a1_b0.length (a1_b0.flatMap encR38)]⟩), (4, ⟨4, false, [.sc (.bool a2_b0)]⟩), (5, ⟨4, false, [.sc (.bool y_25.2.1)]⟩), (6, ⟨3, false, [.sc (.int .i64 y_25.2.2.1)]⟩), (7, ⟨26, false, [.rd false y_25.2.2.2.length (y_25.2.2.2.flatMap (encI .i64))]⟩), (8, ⟨1, false, [.clo (.func 58) [] [.ptr 1 0, .ptr 3 0, .ptr 4 0, .ptr 5 0, .ptr 6 0, .ptr 7 0, .ptr 8 0]]⟩)]⟩) (VC.sub (.c rfl <| .c rfl <| .c rfl <| .c rfl <| .n _) (.c rfl <| .c rfl <| .c rfl <| .c rfl <| .c rfl <| .c rfl <| .c rfl <| .c rfl <| .n _)) ?_
            obtain ⟨l2_26, hl2_26, h⟩ := bindS h
            refine AWP.region (.cons (.loadP (lt1 rfl) (.tmp rfl) one26 rfl rfl rfl) <| .cons (.loadP (lt1 rfl) (.tmp rfl) one26 rfl rfl rfl) <| .cons (.lenOwn (lt1 rfl) (.tmp rfl) Try.underlying26) <| .cons (.sub (lt1 rfl) (.tmp rfl) (.const _ _ _)) <| .cons (.slOwn (enc := (encI .i64)) (gh := 0) (gh' := 0) (lt1 rfl) (.tmp rfl) rfl Try.underlying26 sz3 (encI_len .i64) rfl (.none _ _ _) (.some (.tmp rfl)) hl2_26 rfl) <| .cons (.storeP (.tmp rfl) (.tmp rfl) sz26 rfl (lt1 rfl) rfl (by intro h; cases h) rfl) <| ARun.nil _ _ _) ?_
            exact endJ (l2_26, y_25.2.1, y_25.2.2.1, y_25.2.2.2) h (VC.sub (.c rfl <| .c rfl <| .c rfl <| .c rfl <| .n _) (.c rfl <| .c rfl <| .c rfl <| .c rfl <| .c rfl <| .c rfl <| .c rfl <| .c rfl <| .n _))
          · have h := iteF hc h
            refine AWP.skip ?_
            exact endJ (x_21.2.1, x_21.2.2.1, x_21.2.2.2.1, x_21.2.2.2.2) h (VC.sub (.c rfl <| .c rfl <| .c rfl <| .c rfl <| .n _) (.c rfl <| .c rfl <| .c rfl <| .c rfl <| .c rfl <| .c rfl <| .c rfl <| .c rfl <| .n _))
      · have h := iteF hc h
        refine AWP.exit ?_
        exact endJ (x_21.2.1, x_21.2.2.1, x_21.2.2.2.1, x_21.2.2.2.2) h (VC.sub (.n _) (.c rfl <| .c rfl <| .c rfl <| .c rfl <| .c rfl <| .c rfl <| .c rfl <| .c rfl <| .n _))
theorem c58 (n : Nat) {β1 : Bool} (a0_b0_b : (List Int)) (a1_b0 : (List R38)) (a2_b0 : Bool) (a3_b0 : Bool) (a4_b0 : Int) (a5_b0 : (List Int)) {r : ((List Int) × Bool × Int × (List Int))} (h : m58 n a0_b0_b a1_b0 a2_b0 a3_b0 a4_b0 a5_b0 = some r) : Spec Try.prog 58 [1, 3, 4, 5, 6, 7, 8] [.ptr 1 0, .ptr 3 0, .ptr 4 0, .ptr 5 0, .ptr 6 0, .ptr 7 0, .ptr 8 0] [(1, ⟨26, false, [.own 2 1 0 a0_b0_b.length]⟩), (2, ⟨3, true, a0_b0_b.flatMap (encI .i64)⟩), (3, ⟨30, false, [.rd β1 a1_b0.length (a1_b0.flatMap encR38)]⟩), (4, ⟨4, false, [.sc (.bool a2_b0)]⟩), (5, ⟨4, false, [.sc (.bool a3_b0)]⟩), (6, ⟨3, false, [.sc (.int .i64 a4_b0)]⟩), (7, ⟨26, false, [.rd false a5_b0.length (a5_b0.flatMap (encI .i64))]⟩), (8, ⟨1, false, [.clo (.func 58) [] [.ptr 1 0, .ptr 3 0, .ptr 4 0, .ptr 5 0, .ptr 6 0, .ptr 7 0, .ptr 8 0]]⟩)] (.tup []) [(1, ⟨26, false, [.own 2 1 0 r.1.length]⟩), (2, ⟨3, true, r.1.flatMap (encI .i64)⟩), (3, ⟨30, false, [.rd β1 a1_b0.length (a1_b0.flatMap encR38)]⟩), (4, ⟨4, false, [.sc (.bool a2_b0)]⟩), (5, ⟨4, false, [.sc (.bool r.2.1)]⟩), (6, ⟨3, false, [.sc (.int .i64 r.2.2.1)]⟩), (7, ⟨26, false, [.rd false r.2.2.2.length (r.2.2.2.flatMap (encI .i64))]⟩), (8, ⟨1, false, [.clo (.func 58) [] [.ptr 1 0, .ptr 3 0, .ptr 4 0, .ptr 5 0, .ptr 6 0, .ptr 7 0, .ptr 8 0]]⟩)] := c58F n n a0_b0_b a1_b0 a2_b0 a3_b0 a4_b0 a5_b0 h
theorem c40 {β1 : Bool} (n : Nat) (a0 : (List R38)) (a1 : Bool) {r : ((List Int) × Int)} (h : m40 n a0 a1 = some r) : Spec Try.prog 40 [] [.rd β1 a0.length (a0.flatMap encR38), .sc (.bool a1)] [] (.tup [.rd false r.1.length (r.1.flatMap (encI .i64)), .sc (.int .i64 r.2)]) [] := by
  refine Spec.of (fn := Try.f40) Try.func40 Try.ntmps40 rfl rfl (le1 rfl) (fun w0 Zs Zb T0 ι0 => ?_)
  unfold m40 at h
  refine AWP.seq ?_
  refine AWP.region (.cons (.box (t := 1) (n := 1) (lt1 rfl) (nm rfl) (.tmp rfl) (by first | exact ⟨rfl, rfl⟩ | rfl) rfl) <| .cons (.box (t := 2) (n := 1) (lt1 rfl) (nm rfl) (.tmp rfl) (by first | exact ⟨rfl, rfl⟩ | rfl) rfl) <| .cons (.assign (lt1 rfl) (.const _ _ _)) <| .cons (.assign (lt1 rfl) (.const _ _ _)) <| ARun.nil _ _ _) ?_
  refine AWP.vc (s' := ⟨[(2, .ptr 1 0), (3, .ptr 2 0)], [(2, ⟨4, false, [.sc (.bool a1)]⟩), (1, ⟨30, false, [.rd β1 a0.length (a0.flatMap encR38)]⟩)]⟩) (VC.sub (.c rfl <| .c rfl <| .n _) (.c rfl <| .c rfl <| .n _)) ?_
  refine AWP.seq ?_
  refine AWP.region (.cons (.alloc (t := 3) (k := ⟨26, false, [.sc (.slice none 0 0)]⟩) (lt1 rfl) (nm rfl) zero26 rfl rfl) <| .cons (.alloc (t := 4) (k := ⟨26, false, [.sc (.slice none 0 0)]⟩) (lt1 rfl) (nm rfl) zero26 rfl rfl) <| ARun.nil _ _ _) ?_
  refine AWP.vc (s' := ⟨[(2, .ptr 1 0), (3, .ptr 2 0), (6, .ptr 3 0), (7, .ptr 4 0)], [(4, ⟨26, false, [.sc (.slice none 0 0)]⟩), (3, ⟨26, false, [.sc (.slice none 0 0)]⟩), (2, ⟨4, false, [.sc (.bool a1)]⟩), (1, ⟨30, false, [.rd β1 a0.length (a0.flatMap encR38)]⟩)]⟩) (VC.sub (.c rfl <| .c rfl <| .c rfl <| .c rfl <| .n _) (.c rfl <| .c rfl <| .c rfl <| .c rfl <| .n _)) ?_
  refine AWP.seq ?_
  refine AWP.region (.cons (.alloc (t := 5) (k := ⟨3, false, [.sc (.int .i64 (0 : Int))]⟩) (lt1 rfl) (nm rfl) zero3 rfl rfl) <| .cons (.alloc (t := 6) (k := ⟨4, false, [.sc (.bool false)]⟩) (lt1 rfl) (nm rfl) zero4 rfl rfl) <| .cons (.storeP (.tmp rfl) (.const _ _ _) sz3 rfl (lt1 rfl) rfl (by intro h; cases h) rfl) <| .cons (.storeP (.tmp rfl) (.const _ _ _) sz4 rfl (lt1 rfl) rfl (by intro h; cases h) rfl) <| ARun.nil _ _ _) ?_
  refine AWP.vc (s' := ⟨[(2, .ptr 1 0), (3, .ptr 2 0), (6, .ptr 3 0), (7, .ptr 4 0), (8, .ptr 5 0), (9, .ptr 6 0)], [(6, ⟨4, false, [.sc (.bool false)]⟩), (5, ⟨3, false, [.sc (.int .i64 (0 : Int))]⟩), (4, ⟨26, false, [.sc (.slice none 0 0)]⟩), (3, ⟨26, false, [.sc (.slice none 0 0)]⟩), (2, ⟨4, false, [.sc (.bool a1)]⟩), (1, ⟨30, false, [.rd β1 a0.length (a0.flatMap encR38)]⟩)]⟩) (VC.sub (.c rfl <| .c rfl <| .c rfl <| .c rfl <| .c rfl <| .c rfl <| .n _) (.c rfl <| .c rfl <| .c rfl <| .c rfl <| .c rfl <| .c rfl <| .n _)) ?_
  refine AWP.seq ?_
  refine AWP.region (.cons (.alloc (t := 7) (k := ⟨1, false, [.sc (.nilFunc)]⟩) (lt1 rfl) (nm rfl) zero1 rfl rfl) <| ARun.nil _ _ _) ?_
  refine AWP.vc (s' := ⟨[(2, .ptr 1 0), (3, .ptr 2 0), (6, .ptr 3 0), (7, .ptr 4 0), (8, .ptr 5 0), (9, .ptr 6 0), (10, .ptr 7 0)], [(7, ⟨1, false, [.sc (.nilFunc)]⟩), (6, ⟨4, false, [.sc (.bool false)]⟩), (5, ⟨3, false, [.sc (.int .i64 (0 : Int))]⟩), (4, ⟨26, false, [.sc (.slice none 0 0)]⟩), (3, ⟨26, false, [.sc (.slice none 0 0)]⟩), (2, ⟨4, false, [.sc (.bool a1)]⟩), (1, ⟨30, false, [.rd β1 a0.length (a0.flatMap encR38)]⟩)]⟩) (VC.sub (.c rfl <| .c rfl <| .c rfl <| .c rfl <| .c rfl <| .c rfl <| .c rfl <| .n _) (.c rfl <| .c rfl <| .c rfl <| .c rfl <| .c rfl <| .c rfl <| .c rfl <| .n _)) ?_
  refine AWP.seq ?_
  refine AWP.region (.cons (.makeFunc (lt1 rfl) (.nil) (.cons (.tmp rfl) (.cons (.tmp rfl) (.cons (.tmp rfl) (.cons (.tmp rfl) (.cons (.tmp rfl) (.cons (.tmp rfl) (.cons (.tmp rfl) (.nil))))))))) <| .cons (.storeP (.tmp rfl) (.tmp rfl) sz1 rfl (lt1 rfl) rfl (by intro h; cases h) rfl) <| ARun.nil _ _ _) ?_
  refine AWP.vc (s' := ⟨[(6, .ptr 3 0), (8, .ptr 5 0), (10, .ptr 7 0)], [(7, ⟨1, false, [.clo (.func 58) [] [.ptr 4 0, .ptr 1 0, .ptr 2 0, .ptr 6 0, .ptr 5 0, .ptr 3 0, .ptr 7 0]]⟩), (6, ⟨4, false, [.sc (.bool false)]⟩), (5, ⟨3, false, [.sc (.int .i64 (0 : Int))]⟩), (4, ⟨26, false, [.sc (.slice none 0 0)]⟩), (3, ⟨26, false, [.sc (.slice none 0 0)]⟩), (2, ⟨4, false, [.sc (.bool a1)]⟩), (1, ⟨30, false, [.rd β1 a0.length (a0.flatMap encR38)]⟩)]⟩) (VC.sub (.c rfl <| .c rfl <| .c rfl <| .n _) (.c rfl <| .c rfl <| .c rfl <| .c rfl <| .c rfl <| .c rfl <| .c rfl <| .n _)) ?_
  refine AWP.seq ?_
  obtain ⟨y_1, hy_1, h⟩ := bindS h
  refine AWP.region (.cons (.loadP (lt1 rfl) (.tmp rfl) one1 rfl rfl rfl) <| .vc (VC.trans (VC.newTag (t := 8) (E := 3) (nm rfl)) (VC.cell (t := 4) (i := 0) (v' := .own 8 1 0 0) rfl rfl rfl (fun _ _ _ _ h => nil_own h))) <| .vc (VC.cell (t := 3) (i := 0) (v' := .rd false 0 []) rfl rfl rfl (fun _ _ _ _ h => nil_rd h)) <| .cons (.callV (us' := []) (avs := []) (cs' := [.ptr 1 0, .ptr 3 0, .ptr 4 0, .ptr 5 0, .ptr 6 0, .ptr 7 0, .ptr 8 0]) (σ := sgT [(1, 4), (2, 8), (3, 1), (4, 2), (5, 6), (6, 5), (7, 3), (8, 7)]) (bw := false) (lt1 rfl) (.tmp rfl) (c58 (β1 := β1) n ([] : List Int) a0 a1 false (0 : Int) ([] : List Int) hy_1) (.nil) (.nil) (.cons (.ren rfl) (.cons (.ren rfl) (.cons (.ren rfl) (.cons (.ren rfl) (.cons (.ren rfl) (.cons (.ren rfl) (.cons (.ren rfl) (.nil)))))))) (CallOk.mk' (.c rfl (.c rfl (.c rfl (.c rfl (.c rfl (.c rfl (.c rfl (.c rfl (.n))))))))) rfl) (fun _ h => by cases h)) <| ARun.nil _ _ _) ?_
  refine AWP.vc (s' := ⟨[(6, .ptr 3 0), (8, .ptr 5 0)], [(5, ⟨3, false, [.sc (.int .i64 y_1.2.2.1)]⟩), (3, ⟨26, false, [.rd false y_1.2.2.2.length (y_1.2.2.2.flatMap (encI .i64))]⟩)]⟩) (VC.sub (.c rfl <| .c rfl <| .n _) (.c rfl <| .c rfl <| .n _)) ?_
  refine AWP.seq ?_
  refine AWP.draw (s' := ⟨[(4, .rd false y_1.2.2.2.length (y_1.2.2.2.flatMap (encI .i64))), (5, .sc (.int .i64 y_1.2.2.1))], [(5, ⟨3, false, [.sc (.int .i64 y_1.2.2.1)]⟩), (3, ⟨26, false, [.rd false y_1.2.2.2.length (y_1.2.2.2.flatMap (encI .i64))]⟩)]⟩) mixed [⟨6, .ptr 3 0, none, []⟩, ⟨8, .ptr 5 0, none, []⟩, ⟨14, .rd false y_1.2.2.2.length (y_1.2.2.2.flatMap (encI .i64)), some 0, []⟩, ⟨15, .sc (.int .i64 y_1.2.2.1), some 1, []⟩, ⟨4, .rd false y_1.2.2.2.length (y_1.2.2.2.flatMap (encI .i64)), some 2, []⟩, ⟨5, .sc (.int .i64 y_1.2.2.1), some 3, []⟩] [⟨[0], 0, 0, some (14, .rd false y_1.2.2.2.length (y_1.2.2.2.flatMap (encI .i64))), []⟩, ⟨[1], 0, 0, some (15, .sc (.int .i64 y_1.2.2.1)), []⟩, ⟨[2], 0, 0, some (4, .rd false y_1.2.2.2.length (y_1.2.2.2.flatMap (encI .i64))), []⟩, ⟨[3], 0, 0, some (5, .sc (.int .i64 y_1.2.2.1)), []⟩] [] [[(5, ⟨3, false, [.sc (.int .i64 y_1.2.2.1)]⟩), (3, ⟨26, false, [.rd false y_1.2.2.2.length (y_1.2.2.2.flatMap (encI .i64))]⟩)]] [[], [], [0], [0, 1, 2]] (by kernel_rfl) (by kernel_rfl) (BornL.ok (.o <| .o <| .b rfl rfl <| .b rfl rfl <| .b rfl rfl <| .b rfl rfl <| .n)) (BaseL.ok (.o rfl <| .o rfl <| .b <| .b <| .b <| .b <| .n)) rfl (by decide) (allLt rfl) (.read rfl (.c (.put (fun E hE => .loadP (lt1 rfl) (.tmp (hE.at (k := 0) rfl)) one26 rfl rfl rfl)) .n) <| .read rfl (.c (.put (fun E hE => .loadP (lt1 rfl) (.tmp (hE.at (k := 0) rfl)) one3 rfl rfl rfl)) .n) <| .pure rfl (fun H => .put (fun E hE => .assign (lt1 rfl) (.tmp (hE.at (k := 0) rfl)))) <| .pure rfl (fun H => .put (fun E hE => .assign (lt1 rfl) (.tmp (hE.at (k := 0) rfl)))) <| .nil _) (fun E hE => .c (DInv.at hE (k := 4) rfl rfl rfl) <| .c (DInv.at hE (k := 5) rfl rfl rfl) <| .n _) rfl ?_
  refine AWP.ret ?_
  obtain rfl := Option.some.inj h
  refine retJ (Res.vc (s' := ⟨[(4, .rd false y_1.2.2.2.length (y_1.2.2.2.flatMap (encI .i64))), (5, .sc (.int .i64 y_1.2.2.1))], []⟩) (VC.sub (.c rfl <| .c rfl <| .n _) (.n _)) ?_)
  refine Res.drop (H := []) rfl ?_
  exact Res.of rfl (.cons (.tmp rfl) (.cons (.tmp rfl) (.nil))) rfl rfl
theorem c12 {β1 : Bool} (n : Nat) (a0 : (List R38)) (a1 : Bool) {r : ((List Int) × Int × Int)} (h : m12 n a0 a1 = some r) : Spec Try.prog 12 [] [.rd β1 a0.length (a0.flatMap encR38), .sc (.bool a1)] [] (.tup [.rd false r.1.length (r.1.flatMap (encI .i64)), .sc (.int .i64 r.2.1), .sc (.int .i64 r.2.2)]) [] := by
  refine Spec.of (fn := Try.f12) Try.func12 Try.ntmps12 rfl rfl (le1 rfl) (fun w0 Zs Zb T0 ι0 => ?_)
  unfold m12 at h
  refine AWP.seq ?_
  refine AWP.region (.cons (.assign (lt1 rfl) (.const _ _ _)) <| .cons (.assign (lt1 rfl) (.const _ _ _)) <| .cons (.assign (lt1 rfl) (.const _ _ _)) <| ARun.nil _ _ _) ?_
  refine AWP.vc (s' := ⟨[(0, .rd β1 a0.length (a0.flatMap encR38)), (1, .sc (.bool a1))], []⟩) (VC.sub (.c rfl <| .c rfl <| .n _) (.n _)) ?_
  refine AWP.seq ?_
  refine AWP.block ?_
  refine AWP.seq ?_
  obtain ⟨y_1, hy_1, h⟩ := bindS h
  refine AWP.region (.cons (.move (lt1 rfl) (.tmp rfl)) <| .cons (.call0 (bw := false) (lt1 rfl) (c28 (β1 := β1) n a0 hy_1) (.cons (.tmp rfl) (.ren rfl) (.nil)) rfl) <| .cons (.not (lt1 rfl) (.tmp rfl)) <| .cons (.assign (lt1 rfl) (.tmp rfl)) <| ARun.nil _ _ _) ?_
  refine AWP.vc (s' := ⟨[(0, .rd β1 a0.length (a0.flatMap encR38)), (1, .sc (.bool a1)), (9, .sc (.bool (!y_1)))], []⟩) (VC.sub (.c rfl <| .c rfl <| .c rfl <| .n _) (.n _)) ?_
  refine AWP.cond (.tmp rfl) (fun hc => ?_) (fun hc => ?_)
  · have h := iteT hc h
    refine AWP.seq ?_
    refine AWP.region (.cons (.assign (lt1 rfl) (.const _ _ _)) <| .cons (.assign (lt1 rfl) (.const _ _ _)) <| .cons (.assign (lt1 rfl) (.const _ _ _)) <| ARun.nil _ _ _) ?_
    refine AWP.ret ?_
    obtain rfl := Option.some.inj h
    refine retJ (Res.vc (s' := ⟨[(4, .rd false ([] : List Int).length (([] : List Int).flatMap (encI .i64))), (5, .sc (.int .i64 (0 : Int))), (6, .sc (.int .i64 (1 : Int)))], []⟩) (VC.trans (VC.nilRd (d := 4) false rfl) (VC.sub (.c rfl <| .c rfl <| .c rfl <| .n _) (.n _))) ?_)
    refine Res.drop (H := []) rfl ?_
    exact Res.of rfl (.cons (.tmp rfl) (.cons (.tmp rfl) (.cons (.tmp rfl) (.nil)))) rfl rfl
  · have h := iteF hc h
    refine AWP.seq ?_
    refine AWP.region (.cons (.move (lt1 rfl) (.tmp rfl)) <| .cons (.lenRd (lt1 rfl) (.tmp rfl) Try.underlying30) <| .cons (.gtr (lt1 rfl) (.tmp rfl) (.const _ _ _)) <| .cons (.assign (lt1 rfl) (.tmp rfl)) <| ARun.nil _ _ _) ?_
    refine AWP.vc (s' := ⟨[(0, .rd β1 a0.length (a0.flatMap encR38)), (1, .sc (.bool a1)), (13, .sc (.bool (decide ((7 : Int) < (a0.length : Int)))))], []⟩) (VC.sub (.c rfl <| .c rfl <| .c rfl <| .n _) (.n _)) ?_
    refine AWP.cond (.tmp rfl) (fun hc => ?_) (fun hc => ?_)
    · have h := iteT hc h
      refine AWP.seq ?_
      refine AWP.region (.cons (.assign (lt1 rfl) (.const _ _ _)) <| .cons (.assign (lt1 rfl) (.const _ _ _)) <| .cons (.assign (lt1 rfl) (.const _ _ _)) <| ARun.nil _ _ _) ?_
      refine AWP.ret ?_
      obtain rfl := Option.some.inj h
      refine retJ (Res.vc (s' := ⟨[(4, .rd false ([] : List Int).length (([] : List Int).flatMap (encI .i64))), (5, .sc (.int .i64 (0 : Int))), (6, .sc (.int .i64 (9 : Int)))], []⟩) (VC.trans (VC.nilRd (d := 4) false rfl) (VC.sub (.c rfl <| .c rfl <| .c rfl <| .n _) (.n _))) ?_)
      refine Res.drop (H := []) rfl ?_
      exact Res.of rfl (.cons (.tmp rfl) (.cons (.tmp rfl) (.cons (.tmp rfl) (.nil)))) rfl rfl
    · have h := iteF hc h
      refine AWP.skip ?_
      refine AWP.seq ?_
      obtain ⟨y_2, hy_2, h⟩ := bindS h
      refine AWP.region (.cons (.move (lt1 rfl) (.tmp rfl)) <| .cons (.move (lt1 rfl) (.tmp rfl)) <| .cons (.call0 (bw := false) (lt1 rfl) (c40 (β1 := β1) n a0 a1 hy_2) (.cons (.tmp rfl) (.ren rfl) (.cons (.tmp rfl) (.ren rfl) (.nil))) rfl) <| .cons (.move (lt1 rfl) (.tmp rfl)) <| .cons (.extract (lt1 rfl) (.tmp rfl) rfl) <| .cons (.extract (lt1 rfl) (.tmp rfl) rfl) <| .cons (.assign (lt1 rfl) (.tmp rfl)) <| .cons (.assign (lt1 rfl) (.tmp rfl)) <| ARun.nil _ _ _) ?_
      refine AWP.vc (s' := ⟨[(7, .rd false y_2.1.length (y_2.1.flatMap (encI .i64))), (8, .sc (.int .i64 y_2.2))], []⟩) (VC.sub (.c rfl <| .c rfl <| .n _) (.n _)) ?_
      refine AWP.seq ?_
      refine AWP.region (.cons (.move (lt1 rfl) (.tmp rfl)) <| .cons (.move (lt1 rfl) (.tmp rfl)) <| .cons (.assign (lt1 rfl) (.tmp rfl)) <| .cons (.assign (lt1 rfl) (.tmp rfl)) <| .cons (.assign (lt1 rfl) (.const _ _ _)) <| ARun.nil _ _ _) ?_
      refine AWP.ret ?_
      obtain rfl := Option.some.inj h
      refine retJ (Res.vc (s' := ⟨[(4, .rd false y_2.1.length (y_2.1.flatMap (encI .i64))), (5, .sc (.int .i64 y_2.2)), (6, .sc (.int .i64 (0 : Int)))], []⟩) (VC.sub (.c rfl <| .c rfl <| .c rfl <| .n _) (.n _)) ?_)
      refine Res.drop (H := []) rfl ?_
      exact Res.of rfl (.cons (.tmp rfl) (.cons (.tmp rfl) (.cons (.tmp rfl) (.nil)))) rfl rfl
theorem c43 {β1 : Bool} (n : Nat) (a0 : (List R38)) (a1 : Int) {r : Int} (h : m43 n a0 a1 = some r) : Spec Try.prog 43 [] [.rd β1 a0.length (a0.flatMap encR38), .sc (.int .i64 a1)] [] (.sc (.int .i64 r)) [] := by
  refine Spec.of (fn := Try.f43) Try.func43 Try.ntmps43 rfl rfl (le1 rfl) (fun w0 Zs Zb T0 ι0 => ?_)
  unfold m43 at h
  refine AWP.seq ?_
  refine AWP.region (.cons (.assign (lt1 rfl) (.const _ _ _)) <| ARun.nil _ _ _) ?_
  refine AWP.vc (s' := ⟨[(0, .rd β1 a0.length (a0.flatMap encR38)), (1, .sc (.int .i64 a1))], []⟩) (VC.sub (.c rfl <| .c rfl <| .n _) (.n _)) ?_
  refine AWP.seq ?_
  refine AWP.region (.cons (.assign (lt1 rfl) (.const _ _ _)) <| .cons (.assign (lt1 rfl) (.const _ _ _)) <| ARun.nil _ _ _) ?_
  refine AWP.vc (s' := ⟨[(0, .rd β1 a0.length (a0.flatMap encR38)), (1, .sc (.int .i64 a1)), (5, .sc (.int .i64 (0 : Int))), (6, .sc (.bool false))], []⟩) (VC.sub (.c rfl <| .c rfl <| .c rfl <| .c rfl <| .n _) (.n _)) ?_
  refine AWP.seq ?_
  refine AWP.seq ?_
  refine AWP.region (.cons (.move (lt1 rfl) (.tmp rfl)) <| .cons (.lenRd (lt1 rfl) (.tmp rfl) Try.underlying30) <| .cons (.move (lt1 rfl) (.const _ _ _)) <| ARun.nil _ _ _) ?_
  refine AWP.vc (s' := ⟨[(0, .rd β1 a0.length (a0.flatMap encR38)), (1, .sc (.int .i64 a1)), (5, .sc (.int .i64 (0 : Int))), (6, .sc (.bool false)), (15, .rd β1 a0.length (a0.flatMap encR38)), (16, .sc (.int .i64 (a0.length : Int))), (17, .sc (.int .i64 (0 : Int)))], []⟩) (VC.sub (.c rfl <| .c rfl <| .c rfl <| .c rfl <| .c rfl <| .c rfl <| .c rfl <| .n _) (.n _)) ?_
  refine AWP.joinB' (S := fun p_272 : Int => ⟨[(5, .sc (.int .i64 p_272))], []⟩) h (fun p_272 h => ?_) (fun k_273 h => ?_)
  · refine AWP.seq ?_
    refine AWP.region (.cons (.move (lt1 rfl) (.tmp rfl)) <| .cons (.assign (lt1 rfl) (.tmp rfl)) <| ARun.nil _ _ _) ?_
    refine AWP.ret ?_
    obtain rfl := Option.some.inj h
    refine retJ (Res.vc (s' := ⟨[(4, .sc (.int .i64 p_272))], []⟩) (VC.sub (.c rfl <| .n _) (.n _)) ?_)
    refine Res.drop (H := []) rfl ?_
    exact Res.of rfl (.cons (.tmp rfl) (.nil)) rfl rfl
  · refine AWP.vc (s' := ⟨[(0, .rd β1 a0.length (a0.flatMap encR38)), (1, .sc (.int .i64 a1)), (5, .sc (.int .i64 (0 : Int))), (6, .sc (.bool false)), (15, .rd β1 a0.length (a0.flatMap encR38)), (16, .sc (.int .i64 (a0.length : Int))), (17, .sc (.int .i64 (0 : Int)))], []⟩) (VC.sub (.c rfl <| .c rfl <| .c rfl <| .c rfl <| .c rfl <| .c rfl <| .c rfl <| .n _) (.n _)) ?_
    refine AWP.loopM (S := fun x_181 : Int × Bool × Int => ⟨[(0, .rd β1 a0.length (a0.flatMap encR38)), (1, .sc (.int .i64 a1)), (5, .sc (.int .i64 x_181.1)), (6, .sc (.bool x_181.2.1)), (15, .rd β1 a0.length (a0.flatMap encR38)), (16, .sc (.int .i64 (a0.length : Int))), (17, .sc (.int .i64 x_181.2.2))], []⟩) (x := ((0 : Int), false, (0 : Int))) (fun nx_182 x_181 h => ?_) h
    unfold m43_L9 at h
    refine AWP.seq ?_
    refine AWP.region (.cons (.lss (lt1 rfl) (.tmp rfl) (.tmp rfl)) <| ARun.nil _ _ _) ?_
    refine AWP.vc (s' := ⟨[(0, .rd β1 a0.length (a0.flatMap encR38)), (1, .sc (.int .i64 a1)), (5, .sc (.int .i64 x_181.1)), (6, .sc (.bool x_181.2.1)), (15, .rd β1 a0.length (a0.flatMap encR38)), (16, .sc (.int .i64 (a0.length : Int))), (17, .sc (.int .i64 x_181.2.2)), (18, .sc (.bool (decide (x_181.2.2 < (a0.length : Int)))))], []⟩) (VC.sub (.c rfl <| .c rfl <| .c rfl <| .c rfl <| .c rfl <| .c rfl <| .c rfl <| .c rfl <| .n _) (.n _)) ?_
    refine AWP.seq ?_
    refine AWP.cond (.tmp rfl) (fun hc => ?_) (fun hc => ?_)
    · have h := iteT hc h
      refine AWP.skip ?_
      refine AWP.seq ?_
      refine AWP.block ?_
      refine AWP.seq ?_
      obtain ⟨y_183, hy_183, h⟩ := bindS h
      refine AWP.region (.cons (.indexRd (enc := encR38) (lt1 rfl) (.tmp rfl) (.tmp rfl) Try.underlying30 sz40 encR38_len rfl hy_183) <| .cons (.loadRA (out := [.sc (.int .i64 y_183.Release), .sc (.int .i64 y_183.Length), .sc (.int .i64 y_183.Due)]) (lt1 rfl) (.tmp rfl) agg40 (Nat.le_of_eq (Eq.symm (encR38_len _))) rfl) <| .cons (.alloc (t := 1) (k := ⟨40, false, [.sc (.int .i64 (0 : Int)), .sc (.int .i64 (0 : Int)), .sc (.int .i64 (0 : Int))]⟩) (lt1 rfl) (nm rfl) zero40 rfl rfl) <| .cons (.storePA (.tmp rfl) (.tmp rfl) sz40 rfl rfl (le1 rfl) (one_lit rfl) (by intro h; cases h) rfl) <| ARun.nil _ _ _) ?_
      refine AWP.vc (s' := ⟨[(0, .rd β1 a0.length (a0.flatMap encR38)), (1, .sc (.int .i64 a1)), (5, .sc (.int .i64 x_181.1)), (6, .sc (.bool x_181.2.1)), (15, .rd β1 a0.length (a0.flatMap encR38)), (16, .sc (.int .i64 (a0.length : Int))), (17, .sc (.int .i64 x_181.2.2)), (8, .ptr 1 0)], [(1, ⟨40, false, [.sc (.int .i64 y_183.Release), .sc (.int .i64 y_183.Length), .sc (.int .i64 y_183.Due)]⟩)]⟩) (VC.sub (.c rfl <| .c rfl <| .c rfl <| .c rfl <| .c rfl <| .c rfl <| .c rfl <| .c rfl <| .n _) (.c rfl <| .n _)) ?_
      refine AWP.seq ?_
      refine AWP.region (.cons (.move (lt1 rfl) (.tmp rfl)) <| .cons (.lenRd (lt1 rfl) (.tmp rfl) Try.underlying30) <| .cons (.move (lt1 rfl) (.const _ _ _)) <| ARun.nil _ _ _) ?_
      refine AWP.vc (s' := ⟨[(0, .rd β1 a0.length (a0.flatMap encR38)), (1, .sc (.int .i64 a1)), (5, .sc (.int .i64 x_181.1)), (6, .sc (.bool x_181.2.1)), (15, .rd β1 a0.length (a0.flatMap encR38)), (16, .sc (.int .i64 (a0.length : Int))), (17, .sc (.int .i64 x_181.2.2)), (8, .ptr 1 0), (21, .rd β1 a0.length (a0.flatMap encR38)), (22, .sc (.int .i64 (a0.length : Int))), (23, .sc (.int .i64 (0 : Int)))], [(1, ⟨40, false, [.sc (.int .i64 y_183.Release), .sc (.int .i64 y_183.Length), .sc (.int .i64 y_183.Due)]⟩)]⟩) (VC.sub (.c rfl <| .c rfl <| .c rfl <| .c rfl <| .c rfl <| .c rfl <| .c rfl <| .c rfl <| .c rfl <| .c rfl <| .c rfl <| .n _) (.c rfl <| .n _)) ?_
      refine AWP.joinB' (S := fun p_269 : Int × Bool => ⟨[(0, .rd β1 a0.length (a0.flatMap encR38)), (1, .sc (.int .i64 a1)), (5, .sc (.int .i64 p_269.1)), (6, .sc (.bool p_269.2)), (15, .rd β1 a0.length (a0.flatMap encR38)), (16, .sc (.int .i64 (a0.length : Int))), (17, .sc (.int .i64 x_181.2.2))], []⟩) h (fun p_269 h => ?_) (fun k_270 h => ?_)
      · obtain ⟨t17_271, ht17_271, h⟩ := letS h
        refine AWP.region (.cons (.add (lt1 rfl) (.tmp rfl) (.const _ _ _)) <| .cons (.move (lt1 rfl) (.tmp rfl)) <| ARun.nil _ _ _) ?_
        exact endJ (p_269.1, p_269.2, t17_271) h (by subst ht17_271; exact VC.sub (.c rfl <| .c rfl <| .c rfl <| .c rfl <| .c rfl <| .c rfl <| .c rfl <| .n _) (.n _))
      · refine AWP.vc (s' := ⟨[(0, .rd β1 a0.length (a0.flatMap encR38)), (1, .sc (.int .i64 a1)), (5, .sc (.int .i64 x_181.1)), (6, .sc (.bool x_181.2.1)), (8, .ptr 1 0), (15, .rd β1 a0.length (a0.flatMap encR38)), (16, .sc (.int .i64 (a0.length : Int))), (17, .sc (.int .i64 x_181.2.2)), (21, .rd β1 a0.length (a0.flatMap encR38)), (22, .sc (.int .i64 (a0.length : Int))), (23, .sc (.int .i64 (0 : Int)))], [(1, ⟨40, false, [.sc (.int .i64 y_183.Release), .sc (.int .i64 y_183.Length), .sc (.int .i64 y_183.Due)]⟩)]⟩) (VC.sub (.c rfl <| .c rfl <| .c rfl <| .c rfl <| .c rfl <| .c rfl <| .c rfl <| .c rfl <| .c rfl <| .c rfl <| .c rfl <| .n _) (.c rfl <| .n _)) ?_
        refine AWP.loopM (S := fun x_240 : Int × Bool × Int => ⟨[(0, .rd β1 a0.length (a0.flatMap encR38)), (1, .sc (.int .i64 a1)), (5, .sc (.int .i64 x_240.1)), (6, .sc (.bool x_240.2.1)), (8, .ptr 1 0), (15, .rd β1 a0.length (a0.flatMap encR38)), (16, .sc (.int .i64 (a0.length : Int))), (17, .sc (.int .i64 x_181.2.2)), (21, .rd β1 a0.length (a0.flatMap encR38)), (22, .sc (.int .i64 (a0.length : Int))), (23, .sc (.int .i64 x_240.2.2))], [(1, ⟨40, false, [.sc (.int .i64 y_183.Release), .sc (.int .i64 y_183.Length), .sc (.int .i64 y_183.Due)]⟩)]⟩) (x := (x_181.1, x_181.2.1, (0 : Int))) (fun nx_241 x_240 h => ?_) h
        unfold m43_L12 at h
        refine AWP.seq ?_
        refine AWP.region (.cons (.lss (lt1 rfl) (.tmp rfl) (.tmp rfl)) <| ARun.nil _ _ _) ?_
        refine AWP.vc (s' := ⟨[(0, .rd β1 a0.length (a0.flatMap encR38)), (1, .sc (.int .i64 a1)), (5, .sc (.int .i64 x_240.1)), (6, .sc (.bool x_240.2.1)), (8, .ptr 1 0), (15, .rd β1 a0.length (a0.flatMap encR38)), (16, .sc (.int .i64 (a0.length : Int))), (17, .sc (.int .i64 x_181.2.2)), (21, .rd β1 a0.length (a0.flatMap encR38)), (22, .sc (.int .i64 (a0.length : Int))), (23, .sc (.int .i64 x_240.2.2)), (24, .sc (.bool (decide (x_240.2.2 < (a0.length : Int)))))], [(1, ⟨40, false, [.sc (.int .i64 y_183.Release), .sc (.int .i64 y_183.Length), .sc (.int .i64 y_183.Due)]⟩)]⟩) (VC.sub (.c rfl <| .c rfl <| .c rfl <| .c rfl <| .c rfl <| .c rfl <| .c rfl <| .c rfl <| .c rfl <| .c rfl <| .c rfl <| .c rfl <| .n _) (.c rfl <| .n _)) ?_
        refine AWP.seq ?_
        refine AWP.cond (.tmp rfl) (fun hc => ?_) (fun hc => ?_)
        · have h := iteT hc h
          refine AWP.skip ?_
          refine AWP.seq ?_
          refine AWP.block ?_
          refine AWP.seq ?_
          obtain ⟨y_242, hy_242, h⟩ := bindS h
          refine AWP.region (.cons (.indexRd (enc := encR38) (lt1 rfl) (.tmp rfl) (.tmp rfl) Try.underlying30 sz40 encR38_len rfl hy_242) <| .cons (.loadRA (out := [.sc (.int .i64 y_242.Release), .sc (.int .i64 y_242.Length), .sc (.int .i64 y_242.Due)]) (lt1 rfl) (.tmp rfl) agg40 (Nat.le_of_eq (Eq.symm (encR38_len _))) rfl) <| .cons (.alloc (t := 2) (k := ⟨40, false, [.sc (.int .i64 (0 : Int)), .sc (.int .i64 (0 : Int)), .sc (.int .i64 (0 : Int))]⟩) (lt1 rfl) (nm rfl) zero40 rfl rfl) <| .cons (.storePA (.tmp rfl) (.tmp rfl) sz40 rfl rfl (le1 rfl) (one_lit rfl) (by intro h; cases h) rfl) <| ARun.nil _ _ _) ?_
          refine AWP.vc (s' := ⟨[(0, .rd β1 a0.length (a0.flatMap encR38)), (1, .sc (.int .i64 a1)), (5, .sc (.int .i64 x_240.1)), (6, .sc (.bool x_240.2.1)), (8, .ptr 1 0), (15, .rd β1 a0.length (a0.flatMap encR38)), (16, .sc (.int .i64 (a0.length : Int))), (17, .sc (.int .i64 x_181.2.2)), (21, .rd β1 a0.length (a0.flatMap encR38)), (22, .sc (.int .i64 (a0.length : Int))), (23, .sc (.int .i64 x_240.2.2)), (10, .ptr 2 0)], [(2, ⟨40, false, [.sc (.int .i64 y_242.Release), .sc (.int .i64 y_242.Length), .sc (.int .i64 y_242.Due)]⟩), (1, ⟨40, false, [.sc (.int .i64 y_183.Release), .sc (.int .i64 y_183.Length), .sc (.int .i64 y_183.Due)]⟩)]⟩) (VC.sub (.c rfl <| .c rfl <| .c rfl <| .c rfl <| .c rfl <| .c rfl <| .c rfl <| .c rfl <| .c rfl <| .c rfl <| .c rfl <| .c rfl <| .n _) (.c rfl <| .c rfl <| .n _)) ?_
          refine AWP.seq ?_
          refine AWP.region (.cons (.assign (lt1 rfl) (.const _ _ _)) <| ARun.nil _ _ _) ?_
          refine AWP.vc (s' := ⟨[(0, .rd β1 a0.length (a0.flatMap encR38)), (1, .sc (.int .i64 a1)), (5, .sc (.int .i64 x_240.1)), (6, .sc (.bool x_240.2.1)), (8, .ptr 1 0), (15, .rd β1 a0.length (a0.flatMap encR38)), (16, .sc (.int .i64 (a0.length : Int))), (17, .sc (.int .i64 x_181.2.2)), (21, .rd β1 a0.length (a0.flatMap encR38)), (22, .sc (.int .i64 (a0.length : Int))), (23, .sc (.int .i64 x_240.2.2)), (10, .ptr 2 0), (11, .sc (.int .i64 (0 : Int)))], [(2, ⟨40, false, [.sc (.int .i64 y_242.Release), .sc (.int .i64 y_242.Length), .sc (.int .i64 y_242.Due)]⟩), (1, ⟨40, false, [.sc (.int .i64 y_183.Release), .sc (.int .i64 y_183.Length), .sc (.int .i64 y_183.Due)]⟩)]⟩) (VC.sub (.c rfl <| .c rfl <| .c rfl <| .c rfl <| .c rfl <| .c rfl <| .c rfl <| .c rfl <| .c rfl <| .c rfl <| .c rfl <| .c rfl <| .c rfl <| .n _) (.c rfl <| .c rfl <| .n _)) ?_
          refine AWP.seq ?_
          refine AWP.seq ?_
          refine AWP.region (.cons (.move (lt1 rfl) (.tmp rfl)) <| .cons (.lenRd (lt1 rfl) (.tmp rfl) Try.underlying30) <| .cons (.move (lt1 rfl) (.const _ _ _)) <| ARun.nil _ _ _) ?_
          refine AWP.vc (s' := ⟨[(0, .rd β1 a0.length (a0.flatMap encR38)), (1, .sc (.int .i64 a1)), (5, .sc (.int .i64 x_240.1)), (6, .sc (.bool x_240.2.1)), (8, .ptr 1 0), (15, .rd β1 a0.length (a0.flatMap encR38)), (16, .sc (.int .i64 (a0.length : Int))), (17, .sc (.int .i64 x_181.2.2)), (21, .rd β1 a0.length (a0.flatMap encR38)), (22, .sc (.int .i64 (a0.length : Int))), (23, .sc (.int .i64 x_240.2.2)), (10, .ptr 2 0), (11, .sc (.int .i64 (0 : Int))), (27, .rd β1 a0.length (a0.flatMap encR38)), (28, .sc (.int .i64 (a0.length : Int))), (29, .sc (.int .i64 (0 : Int)))], [(2, ⟨40, false, [.sc (.int .i64 y_242.Release), .sc (.int .i64 y_242.Length), .sc (.int .i64 y_242.Due)]⟩), (1, ⟨40, false, [.sc (.int .i64 y_183.Release), .sc (.int .i64 y_183.Length), .sc (.int .i64 y_183.Due)]⟩)]⟩) (VC.sub (.c rfl <| .c rfl <| .c rfl <| .c rfl <| .c rfl <| .c rfl <| .c rfl <| .c rfl <| .c rfl <| .c rfl <| .c rfl <| .c rfl <| .c rfl <| .c rfl <| .c rfl <| .c rfl <| .n _) (.c rfl <| .c rfl <| .n _)) ?_
          refine AWP.joinB' (S := fun p_262 : Int => ⟨[(0, .rd β1 a0.length (a0.flatMap encR38)), (1, .sc (.int .i64 a1)), (5, .sc (.int .i64 x_240.1)), (6, .sc (.bool x_240.2.1)), (8, .ptr 1 0), (10, .ptr 2 0), (11, .sc (.int .i64 p_262)), (15, .rd β1 a0.length (a0.flatMap encR38)), (16, .sc (.int .i64 (a0.length : Int))), (17, .sc (.int .i64 x_181.2.2)), (21, .rd β1 a0.length (a0.flatMap encR38)), (22, .sc (.int .i64 (a0.length : Int))), (23, .sc (.int .i64 x_240.2.2))], [(1, ⟨40, false, [.sc (.int .i64 y_183.Release), .sc (.int .i64 y_183.Length), .sc (.int .i64 y_183.Due)]⟩), (2, ⟨40, false, [.sc (.int .i64 y_242.Release), .sc (.int .i64 y_242.Length), .sc (.int .i64 y_242.Due)]⟩)]⟩) h (fun p_262 h => ?_) (fun k_263 h => ?_)
          · refine AWP.seq ?_
            obtain ⟨ha_264, h⟩ := asrtS h
            obtain ⟨t14_265, ht14_265, h⟩ := letS h
            refine AWP.draw (s' := ⟨[(0, .rd β1 a0.length (a0.flatMap encR38)), (1, .sc (.int .i64 a1)), (5, .sc (.int .i64 x_240.1)), (6, .sc (.bool x_240.2.1)), (8, .ptr 1 0), (11, .sc (.int .i64 p_262)), (14, .sc (.int .i64 (IntKind.wrap .i64 ((IntKind.wrap .i64 (y_183.Release + (IntKind.wrap .i64 ((IntKind.wrap .i64 ((IntKind.wrap .i64 (p_262 + a1)) - (1 : Int))).tdiv a1)))) - y_242.Due)))), (15, .rd β1 a0.length (a0.flatMap encR38)), (16, .sc (.int .i64 (a0.length : Int))), (17, .sc (.int .i64 x_181.2.2)), (21, .rd β1 a0.length (a0.flatMap encR38)), (22, .sc (.int .i64 (a0.length : Int))), (23, .sc (.int .i64 x_240.2.2))], [(1, ⟨40, false, [.sc (.int .i64 y_183.Release), .sc (.int .i64 y_183.Length), .sc (.int .i64 y_183.Due)]⟩), (2, ⟨40, false, [.sc (.int .i64 y_242.Release), .sc (.int .i64 y_242.Length), .sc (.int .i64 y_242.Due)]⟩)]⟩) mixed [⟨0, .rd β1 a0.length (a0.flatMap encR38), none, []⟩, ⟨1, .sc (.int .i64 a1), none, []⟩, ⟨5, .sc (.int .i64 x_240.1), none, []⟩, ⟨6, .sc (.bool x_240.2.1), none, []⟩, ⟨8, .ptr 1 0, none, []⟩, ⟨10, .ptr 2 0, none, []⟩, ⟨11, .sc (.int .i64 p_262), none, []⟩, ⟨15, .rd β1 a0.length (a0.flatMap encR38), none, []⟩, ⟨16, .sc (.int .i64 (a0.length : Int)), none, []⟩, ⟨17, .sc (.int .i64 x_181.2.2), none, []⟩, ⟨21, .rd β1 a0.length (a0.flatMap encR38), none, []⟩, ⟨22, .sc (.int .i64 (a0.length : Int)), none, []⟩, ⟨23, .sc (.int .i64 x_240.2.2), none, []⟩, ⟨50, .ptr 1 (0 + 0), some 0, []⟩, ⟨51, .sc (.int .i64 y_183.Release), some 1, []⟩, ⟨52, .sc (.int .i64 p_262), some 2, []⟩, ⟨53, .sc (.int .i64 a1), some 3, []⟩, ⟨54, .sc (.int .i64 (IntKind.wrap .i64 (p_262 + a1))), some 4, []⟩, ⟨55, .sc (.int .i64 (IntKind.wrap .i64 ((IntKind.wrap .i64 (p_262 + a1)) - (1 : Int)))), some 5, []⟩, ⟨56, .sc (.int .i64 a1), some 6, []⟩, ⟨57, .sc (.int .i64 (IntKind.wrap .i64 ((IntKind.wrap .i64 ((IntKind.wrap .i64 (p_262 + a1)) - (1 : Int))).tdiv a1))), some 7, []⟩, ⟨58, .sc (.int .i64 (IntKind.wrap .i64 (y_183.Release + (IntKind.wrap .i64 ((IntKind.wrap .i64 ((IntKind.wrap .i64 (p_262 + a1)) - (1 : Int))).tdiv a1))))), some 8, []⟩, ⟨59, .ptr 2 (0 + 2), some 9, []⟩, ⟨60, .sc (.int .i64 y_242.Due), some 10, []⟩, ⟨61, .sc (.int .i64 (IntKind.wrap .i64 ((IntKind.wrap .i64 (y_183.Release + (IntKind.wrap .i64 ((IntKind.wrap .i64 ((IntKind.wrap .i64 (p_262 + a1)) - (1 : Int))).tdiv a1)))) - y_242.Due))), some 11, []⟩, ⟨14, .sc (.int .i64 (IntKind.wrap .i64 ((IntKind.wrap .i64 (y_183.Release + (IntKind.wrap .i64 ((IntKind.wrap .i64 ((IntKind.wrap .i64 (p_262 + a1)) - (1 : Int))).tdiv a1)))) - y_242.Due))), some 12, []⟩] [⟨[4], 0, 0, some (50, .ptr 1 (0 + 0)), []⟩, ⟨[13], 0, 0, some (51, .sc (.int .i64 y_183.Release)), []⟩, ⟨[6], 0, 0, some (52, .sc (.int .i64 p_262)), []⟩, ⟨[1], 0, 0, some (53, .sc (.int .i64 a1)), []⟩, ⟨[15, 16], 0, 0, some (54, .sc (.int .i64 (IntKind.wrap .i64 (p_262 + a1)))), []⟩, ⟨[17], 0, 0, some (55, .sc (.int .i64 (IntKind.wrap .i64 ((IntKind.wrap .i64 (p_262 + a1)) - (1 : Int))))), []⟩, ⟨[1], 0, 0, some (56, .sc (.int .i64 a1)), []⟩, ⟨[18, 19], 0, 0, some (57, .sc (.int .i64 (IntKind.wrap .i64 ((IntKind.wrap .i64 ((IntKind.wrap .i64 (p_262 + a1)) - (1 : Int))).tdiv a1)))), []⟩, ⟨[14, 20], 0, 0, some (58, .sc (.int .i64 (IntKind.wrap .i64 (y_183.Release + (IntKind.wrap .i64 ((IntKind.wrap .i64 ((IntKind.wrap .i64 (p_262 + a1)) - (1 : Int))).tdiv a1)))))), []⟩, ⟨[5], 0, 0, some (59, .ptr 2 (0 + 2)), []⟩, ⟨[22], 0, 0, some (60, .sc (.int .i64 y_242.Due)), []⟩, ⟨[21, 23], 0, 0, some (61, .sc (.int .i64 (IntKind.wrap .i64 ((IntKind.wrap .i64 (y_183.Release + (IntKind.wrap .i64 ((IntKind.wrap .i64 ((IntKind.wrap .i64 (p_262 + a1)) - (1 : Int))).tdiv a1)))) - y_242.Due)))), []⟩, ⟨[24], 0, 0, some (14, .sc (.int .i64 (IntKind.wrap .i64 ((IntKind.wrap .i64 (y_183.Release + (IntKind.wrap .i64 ((IntKind.wrap .i64 ((IntKind.wrap .i64 (p_262 + a1)) - (1 : Int))).tdiv a1)))) - y_242.Due)))), []⟩] [] [[(1, ⟨40, false, [.sc (.int .i64 y_183.Release), .sc (.int .i64 y_183.Length), .sc (.int .i64 y_183.Due)]⟩), (2, ⟨40, false, [.sc (.int .i64 y_242.Release), .sc (.int .i64 y_242.Length), .sc (.int .i64 y_242.Due)]⟩)]] [[], [0], [], [], [2, 3], [2, 3, 4], [], [2, 3, 4, 5, 6], [0, 1, 2, 3, 4, 5, 6, 7], [], [9], [0, 1, 2, 3, 4, 5, 6, 7, 8, 9, 10], [0, 1, 2, 3, 4, 5, 6, 7, 8, 9, 10, 11]] (by kernel_rfl) (by kernel_rfl) (BornL.ok (.o <| .o <| .o <| .o <| .o <| .o <| .o <| .o <| .o <| .o <| .o <| .o <| .o <| .b rfl rfl <| .b rfl rfl <| .b rfl rfl <| .b rfl rfl <| .b rfl rfl <| .b rfl rfl <| .b rfl rfl <| .b rfl rfl <| .b rfl rfl <| .b rfl rfl <| .b rfl rfl <| .b rfl rfl <| .b rfl rfl <| .n)) (BaseL.ok (.o rfl <| .o rfl <| .o rfl <| .o rfl <| .o rfl <| .o rfl <| .o rfl <| .o rfl <| .o rfl <| .o rfl <| .o rfl <| .o rfl <| .o rfl <| .b <| .b <| .b <| .b <| .b <| .b <| .b <| .b <| .b <| .b <| .b <| .b <| .b <| .n)) rfl (by decide) (allLt rfl) (.read rfl (.c (.put (fun E hE => .fieldP (lt1 rfl) (.tmp (hE.at (k := 0) rfl)) fld40_0)) .n) <| .read rfl (.c (.put (fun E hE => .loadP (lt1 rfl) (.tmp (hE.at (k := 0) rfl)) one3 rfl rfl rfl)) .n) <| .pure rfl (fun H => .put (fun E hE => .move (lt1 rfl) (.tmp (hE.at (k := 0) rfl)))) <| .pure rfl (fun H => .put (fun E hE => .move (lt1 rfl) (.tmp (hE.at (k := 0) rfl)))) <| .pure rfl (fun H => .put (fun E hE => .add (lt1 rfl) (.tmp (hE.at (k := 0) rfl)) (.tmp (hE.at (k := 1) rfl)))) <| .pure rfl (fun H => .put (fun E hE => .sub (lt1 rfl) (.tmp (hE.at (k := 0) rfl)) (.const _ _ _))) <| .pure rfl (fun H => .put (fun E hE => .move (lt1 rfl) (.tmp (hE.at (k := 0) rfl)))) <| .pure rfl (fun H => .put (fun E hE => .quo (lt1 rfl) (.tmp (hE.at (k := 0) rfl)) (.tmp (hE.at (k := 1) rfl)) ha_264)) <| .pure rfl (fun H => .put (fun E hE => .add (lt1 rfl) (.tmp (hE.at (k := 0) rfl)) (.tmp (hE.at (k := 1) rfl)))) <| .read rfl (.c (.put (fun E hE => .fieldP (lt1 rfl) (.tmp (hE.at (k := 0) rfl)) fld40_2)) .n) <| .read rfl (.c (.put (fun E hE => .loadP (lt1 rfl) (.tmp (hE.at (k := 0) rfl)) one3 rfl rfl rfl)) .n) <| .pure rfl (fun H => .put (fun E hE => .sub (lt1 rfl) (.tmp (hE.at (k := 0) rfl)) (.tmp (hE.at (k := 1) rfl)))) <| .pure rfl (fun H => .put (fun E hE => .assign (lt1 rfl) (.tmp (hE.at (k := 0) rfl)))) <| .nil _) (fun E hE => .c (DInv.at hE (k := 0) rfl rfl rfl) <| .c (DInv.at hE (k := 1) rfl rfl rfl) <| .c (DInv.at hE (k := 2) rfl rfl rfl) <| .c (DInv.at hE (k := 3) rfl rfl rfl) <| .c (DInv.at hE (k := 4) rfl rfl rfl) <| .c (DInv.at hE (k := 6) rfl rfl rfl) <| .c (DInv.at hE (k := 25) rfl rfl rfl) <| .c (DInv.at hE (k := 7) rfl rfl rfl) <| .c (DInv.at hE (k := 8) rfl rfl rfl) <| .c (DInv.at hE (k := 9) rfl rfl rfl) <| .c (DInv.at hE (k := 10) rfl rfl rfl) <| .c (DInv.at hE (k := 11) rfl rfl rfl) <| .c (DInv.at hE (k := 12) rfl rfl rfl) <| .n _) rfl ?_
            refine AWP.vc (s' := ⟨[(0, .rd β1 a0.length (a0.flatMap encR38)), (1, .sc (.int .i64 a1)), (5, .sc (.int .i64 x_240.1)), (6, .sc (.bool x_240.2.1)), (8, .ptr 1 0), (11, .sc (.int .i64 p_262)), (15, .rd β1 a0.length (a0.flatMap encR38)), (16, .sc (.int .i64 (a0.length : Int))), (17, .sc (.int .i64 x_181.2.2)), (21, .rd β1 a0.length (a0.flatMap encR38)), (22, .sc (.int .i64 (a0.length : Int))), (23, .sc (.int .i64 x_240.2.2)), (14, .sc (.int .i64 t14_265))], [(1, ⟨40, false, [.sc (.int .i64 y_183.Release), .sc (.int .i64 y_183.Length), .sc (.int .i64 y_183.Due)]⟩)]⟩) (by subst ht14_265; exact VC.sub (.c rfl <| .c rfl <| .c rfl <| .c rfl <| .c rfl <| .c rfl <| .c rfl <| .c rfl <| .c rfl <| .c rfl <| .c rfl <| .c rfl <| .c rfl <| .n _) (.c rfl <| .n _)) ?_
            refine AWP.seq ?_
            refine AWP.region (.cons (.move (lt1 rfl) (.tmp rfl)) <| .cons (.gtr (lt1 rfl) (.tmp rfl) (.const _ _ _)) <| .cons (.move (lt1 rfl) (.tmp rfl)) <| .guard (j := 2) (dj := 64) rfl (lt1 rfl) rfl (lt1 rfl) (fun hg => .move (lt1 rfl) (.tmp rfl)) <| .guard (j := 2) (dj := 64) rfl (lt1 rfl) rfl (lt1 rfl) (fun hg => .not (lt1 rfl) (.gd hg (.tmp rfl))) <| .guard (j := 2) (dj := 64) rfl (lt1 rfl) rfl (lt1 rfl) (fun hg => .move (lt1 rfl) (.gd hg (.tmp rfl))) <| .guard2 (j := 5) (dj := 67) rfl (lt1 rfl) rfl (lt1 rfl) (fun hg => .move (lt1 rfl) (.tmp rfl)) <| .guard2 (j := 5) (dj := 67) rfl (lt1 rfl) rfl (lt1 rfl) (fun hg => .move (lt1 rfl) (.tmp rfl)) <| .guard2 (j := 5) (dj := 67) rfl (lt1 rfl) rfl (lt1 rfl) (fun hg => .gtr (lt1 rfl) (.gd hg (.tmp rfl)) (.gd hg (.tmp rfl))) <| .guard (j := 2) (dj := 64) rfl (lt1 rfl) rfl (lt1 rfl) (fun hg => .pickOr (lt1 rfl) (.gd hg (.tmp rfl)) (.const _ _ _) (.gdAnd hg (.tmp rfl))) <| .cons (.pickAnd (lt1 rfl) (.tmp rfl) (.tmp rfl) (.const _ _ _)) <| ARun.nil _ _ _) ?_
            refine AWP.vc (s' := ⟨[(0, .rd β1 a0.length (a0.flatMap encR38)), (1, .sc (.int .i64 a1)), (5, .sc (.int .i64 x_240.1)), (6, .sc (.bool x_240.2.1)), (8, .ptr 1 0), (15, .rd β1 a0.length (a0.flatMap encR38)), (16, .sc (.int .i64 (a0.length : Int))), (17, .sc (.int .i64 x_181.2.2)), (21, .rd β1 a0.length (a0.flatMap encR38)), (22, .sc (.int .i64 (a0.length : Int))), (23, .sc (.int .i64 x_240.2.2)), (14, .sc (.int .i64 t14_265)), (72, .sc (.bool ((decide ((0 : Int) < p_262)) && ((!x_240.2.1) || (decide (x_240.1 < t14_265))))))], [(1, ⟨40, false, [.sc (.int .i64 y_183.Release), .sc (.int .i64 y_183.Length), .sc (.int .i64 y_183.Due)]⟩)]⟩) (VC.sub (.c rfl <| .c rfl <| .c rfl <| .c rfl <| .c rfl <| .c rfl <| .c rfl <| .c rfl <| .c rfl <| .c rfl <| .c rfl <| .c rfl <| .c rfl <| .n _) (.c rfl <| .n _)) ?_
            refine AWP.join' (S := fun p_266 : Int × Bool => ⟨[(0, .rd β1 a0.length (a0.flatMap encR38)), (1, .sc (.int .i64 a1)), (5, .sc (.int .i64 p_266.1)), (6, .sc (.bool p_266.2)), (8, .ptr 1 0), (15, .rd β1 a0.length (a0.flatMap encR38)), (16, .sc (.int .i64 (a0.length : Int))), (17, .sc (.int .i64 x_181.2.2)), (21, .rd β1 a0.length (a0.flatMap encR38)), (22, .sc (.int .i64 (a0.length : Int))), (23, .sc (.int .i64 x_240.2.2))], [(1, ⟨40, false, [.sc (.int .i64 y_183.Release), .sc (.int .i64 y_183.Length), .sc (.int .i64 y_183.Due)]⟩)]⟩) h (fun p_266 h => ?_) (fun k_267 h => ?_)
            · obtain ⟨t23_268, ht23_268, h⟩ := letS h
              refine AWP.region (.cons (.add (lt1 rfl) (.tmp rfl) (.const _ _ _)) <| .cons (.move (lt1 rfl) (.tmp rfl)) <| ARun.nil _ _ _) ?_
              exact endJ (p_266.1, p_266.2, t23_268) h (by subst ht23_268; exact VC.sub (.c rfl <| .c rfl <| .c rfl <| .c rfl <| .c rfl <| .c rfl <| .c rfl <| .c rfl <| .c rfl <| .c rfl <| .c rfl <| .n _) (.c rfl <| .n _))
            · refine AWP.cond (.tmp rfl) (fun hc => ?_) (fun hc => ?_)
              · have h := iteT hc h
                refine AWP.region (.cons (.move (lt1 rfl) (.tmp rfl)) <| .cons (.assign (lt1 rfl) (.tmp rfl)) <| .cons (.assign (lt1 rfl) (.const _ _ _)) <| ARun.nil _ _ _) ?_
                exact endJ (t14_265, true) h (VC.sub (.c rfl <| .c rfl <| .c rfl <| .c rfl <| .c rfl <| .c rfl <| .c rfl <| .c rfl <| .c rfl <| .c rfl <| .c rfl <| .n _) (.c rfl <| .n _))
              · have h := iteF hc h
                refine AWP.skip ?_
                exact endJ (x_240.1, x_240.2.1) h (VC.sub (.c rfl <| .c rfl <| .c rfl <| .c rfl <| .c rfl <| .c rfl <| .c rfl <| .c rfl <| .c rfl <| .c rfl <| .c rfl <| .n _) (.c rfl <| .n _))
          · refine AWP.vc (s' := ⟨[(0, .rd β1 a0.length (a0.flatMap encR38)), (1, .sc (.int .i64 a1)), (5, .sc (.int .i64 x_240.1)), (6, .sc (.bool x_240.2.1)), (8, .ptr 1 0), (10, .ptr 2 0), (11, .sc (.int .i64 (0 : Int))), (15, .rd β1 a0.length (a0.flatMap encR38)), (16, .sc (.int .i64 (a0.length : Int))), (17, .sc (.int .i64 x_181.2.2)), (21, .rd β1 a0.length (a0.flatMap encR38)), (22, .sc (.int .i64 (a0.length : Int))), (23, .sc (.int .i64 x_240.2.2)), (27, .rd β1 a0.length (a0.flatMap encR38)), (28, .sc (.int .i64 (a0.length : Int))), (29, .sc (.int .i64 (0 : Int)))], [(1, ⟨40, false, [.sc (.int .i64 y_183.Release), .sc (.int .i64 y_183.Length), .sc (.int .i64 y_183.Due)]⟩), (2, ⟨40, false, [.sc (.int .i64 y_242.Release), .sc (.int .i64 y_242.Length), .sc (.int .i64 y_242.Due)]⟩)]⟩) (VC.sub (.c rfl <| .c rfl <| .c rfl <| .c rfl <| .c rfl <| .c rfl <| .c rfl <| .c rfl <| .c rfl <| .c rfl <| .c rfl <| .c rfl <| .c rfl <| .c rfl <| .c rfl <| .c rfl <| .n _) (.c rfl <| .c rfl <| .n _)) ?_
            refine AWP.loopM (S := fun x_255 : Int × Int => ⟨[(0, .rd β1 a0.length (a0.flatMap encR38)), (1, .sc (.int .i64 a1)), (5, .sc (.int .i64 x_240.1)), (6, .sc (.bool x_240.2.1)), (8, .ptr 1 0), (10, .ptr 2 0), (11, .sc (.int .i64 x_255.1)), (15, .rd β1 a0.length (a0.flatMap encR38)), (16, .sc (.int .i64 (a0.length : Int))), (17, .sc (.int .i64 x_181.2.2)), (21, .rd β1 a0.length (a0.flatMap encR38)), (22, .sc (.int .i64 (a0.length : Int))), (23, .sc (.int .i64 x_240.2.2)), (27, .rd β1 a0.length (a0.flatMap encR38)), (28, .sc (.int .i64 (a0.length : Int))), (29, .sc (.int .i64 x_255.2))], [(1, ⟨40, false, [.sc (.int .i64 y_183.Release), .sc (.int .i64 y_183.Length), .sc (.int .i64 y_183.Due)]⟩), (2, ⟨40, false, [.sc (.int .i64 y_242.Release), .sc (.int .i64 y_242.Length), .sc (.int .i64 y_242.Due)]⟩)]⟩) (x := ((0 : Int), (0 : Int))) (fun nx_256 x_255 h => ?_) h
            unfold m43_L13 at h
            refine AWP.seq ?_
            refine AWP.region (.cons (.lss (lt1 rfl) (.tmp rfl) (.tmp rfl)) <| ARun.nil _ _ _) ?_
            refine AWP.vc (s' := ⟨[(0, .rd β1 a0.length (a0.flatMap encR38)), (1, .sc (.int .i64 a1)), (5, .sc (.int .i64 x_240.1)), (6, .sc (.bool x_240.2.1)), (8, .ptr 1 0), (10, .ptr 2 0), (11, .sc (.int .i64 x_255.1)), (15, .rd β1 a0.length (a0.flatMap encR38)), (16, .sc (.int .i64 (a0.length : Int))), (17, .sc (.int .i64 x_181.2.2)), (21, .rd β1 a0.length (a0.flatMap encR38)), (22, .sc (.int .i64 (a0.length : Int))), (23, .sc (.int .i64 x_240.2.2)), (27, .rd β1 a0.length (a0.flatMap encR38)), (28, .sc (.int .i64 (a0.length : Int))), (29, .sc (.int .i64 x_255.2)), (30, .sc (.bool (decide (x_255.2 < (a0.length : Int)))))], [(1, ⟨40, false, [.sc (.int .i64 y_183.Release), .sc (.int .i64 y_183.Length), .sc (.int .i64 y_183.Due)]⟩), (2, ⟨40, false, [.sc (.int .i64 y_242.Release), .sc (.int .i64 y_242.Length), .sc (.int .i64 y_242.Due)]⟩)]⟩) (VC.sub (.c rfl <| .c rfl <| .c rfl <| .c rfl <| .c rfl <| .c rfl <| .c rfl <| .c rfl <| .c rfl <| .c rfl <| .c rfl <| .c rfl <| .c rfl <| .c rfl <| .c rfl <| .c rfl <| .c rfl <| .n _) (.c rfl <| .c rfl <| .n _)) ?_
            refine AWP.seq ?_
            refine AWP.cond (.tmp rfl) (fun hc => ?_) (fun hc => ?_)
            · have h := iteT hc h
              refine AWP.skip ?_
              refine AWP.seq ?_
              refine AWP.block ?_
              refine AWP.seq ?_
              obtain ⟨y_257, hy_257, h⟩ := bindS h
              refine AWP.region (.cons (.indexRd (enc := encR38) (lt1 rfl) (.tmp rfl) (.tmp rfl) Try.underlying30 sz40 encR38_len rfl hy_257) <| .cons (.loadRA (out := [.sc (.int .i64 y_257.Release), .sc (.int .i64 y_257.Length), .sc (.int .i64 y_257.Due)]) (lt1 rfl) (.tmp rfl) agg40 (Nat.le_of_eq (Eq.symm (encR38_len _))) rfl) <| .cons (.alloc (t := 3) (k := ⟨40, false, [.sc (.int .i64 (0 : Int)), .sc (.int .i64 (0 : Int)), .sc (.int .i64 (0 : Int))]⟩) (lt1 rfl) (nm rfl) zero40 rfl rfl) <| .cons (.storePA (.tmp rfl) (.tmp rfl) sz40 rfl rfl (le1 rfl) (one_lit rfl) (by intro h; cases h) rfl) <| ARun.nil _ _ _) ?_
              refine AWP.vc (s' := ⟨[(0, .rd β1 a0.length (a0.flatMap encR38)), (1, .sc (.int .i64 a1)), (5, .sc (.int .i64 x_240.1)), (6, .sc (.bool x_240.2.1)), (8, .ptr 1 0), (10, .ptr 2 0), (11, .sc (.int .i64 x_255.1)), (15, .rd β1 a0.length (a0.flatMap encR38)), (16, .sc (.int .i64 (a0.length : Int))), (17, .sc (.int .i64 x_181.2.2)), (21, .rd β1 a0.length (a0.flatMap encR38)), (22, .sc (.int .i64 (a0.length : Int))), (23, .sc (.int .i64 x_240.2.2)), (27, .rd β1 a0.length (a0.flatMap encR38)), (28, .sc (.int .i64 (a0.length : Int))), (29, .sc (.int .i64 x_255.2)), (13, .ptr 3 0)], [(3, ⟨40, false, [.sc (.int .i64 y_257.Release), .sc (.int .i64 y_257.Length), .sc (.int .i64 y_257.Due)]⟩), (1, ⟨40, false, [.sc (.int .i64 y_183.Release), .sc (.int .i64 y_183.Length), .sc (.int .i64 y_183.Due)]⟩), (2, ⟨40, false, [.sc (.int .i64 y_242.Release), .sc (.int .i64 y_242.Length), .sc (.int .i64 y_242.Due)]⟩)]⟩) (VC.sub (.c rfl <| .c rfl <| .c rfl <| .c rfl <| .c rfl <| .c rfl <| .c rfl <| .c rfl <| .c rfl <| .c rfl <| .c rfl <| .c rfl <| .c rfl <| .c rfl <| .c rfl <| .c rfl <| .c rfl <| .n _) (.c rfl <| .c rfl <| .c rfl <| .n _)) ?_
              refine AWP.seq ?_
              refine AWP.region (.cons (.fieldP (lt1 rfl) (.tmp rfl) fld40_0) <| .cons (.loadP (lt1 rfl) (.tmp rfl) one3 rfl rfl rfl) <| .cons (.fieldP (lt1 rfl) (.tmp rfl) fld40_0) <| .cons (.loadP (lt1 rfl) (.tmp rfl) one3 rfl rfl rfl) <| .cons (.geq (lt1 rfl) (.tmp rfl) (.tmp rfl)) <| .cons (.move (lt1 rfl) (.tmp rfl)) <| .guard (j := 5) (dj := 38) rfl (lt1 rfl) rfl (lt1 rfl) (fun hg => .fieldP (lt1 rfl) (.tmp rfl) fld40_2) <| .guard (j := 5) (dj := 38) rfl (lt1 rfl) rfl (lt1 rfl) (fun hg => .loadP (lt1 rfl) (.gd hg (.tmp rfl)) one3 rfl rfl rfl) <| .guard (j := 5) (dj := 38) rfl (lt1 rfl) rfl (lt1 rfl) (fun hg => .fieldP (lt1 rfl) (.tmp rfl) fld40_2) <| .guard (j := 5) (dj := 38) rfl (lt1 rfl) rfl (lt1 rfl) (fun hg => .loadP (lt1 rfl) (.gd hg (.tmp rfl)) one3 rfl rfl rfl) <| .guard (j := 5) (dj := 38) rfl (lt1 rfl) rfl (lt1 rfl) (fun hg => .leq (lt1 rfl) (.gd hg (.tmp rfl)) (.gd hg (.tmp rfl))) <| .cons (.pickAnd (lt1 rfl) (.tmp rfl) (.tmp rfl) (.const _ _ _)) <| ARun.nil _ _ _) ?_
              refine AWP.vc (s' := ⟨[(0, .rd β1 a0.length (a0.flatMap encR38)), (1, .sc (.int .i64 a1)), (5, .sc (.int .i64 x_240.1)), (6, .sc (.bool x_240.2.1)), (8, .ptr 1 0), (10, .ptr 2 0), (11, .sc (.int .i64 x_255.1)), (15, .rd β1 a0.length (a0.flatMap encR38)), (16, .sc (.int .i64 (a0.length : Int))), (17, .sc (.int .i64 x_181.2.2)), (21, .rd β1 a0.length (a0.flatMap encR38)), (22, .sc (.int .i64 (a0.length : Int))), (23, .sc (.int .i64 x_240.2.2)), (27, .rd β1 a0.length (a0.flatMap encR38)), (28, .sc (.int .i64 (a0.length : Int))), (29, .sc (.int .i64 x_255.2)), (13, .ptr 3 0), (44, .sc (.bool ((decide (y_183.Release ≤ y_257.Release)) && (decide (y_257.Due ≤ y_242.Due)))))], [(3, ⟨40, false, [.sc (.int .i64 y_257.Release), .sc (.int .i64 y_257.Length), .sc (.int .i64 y_257.Due)]⟩), (1, ⟨40, false, [.sc (.int .i64 y_183.Release), .sc (.int .i64 y_183.Length), .sc (.int .i64 y_183.Due)]⟩), (2, ⟨40, false, [.sc (.int .i64 y_242.Release), .sc (.int .i64 y_242.Length), .sc (.int .i64 y_242.Due)]⟩)]⟩) (VC.sub (.c rfl <| .c rfl <| .c rfl <| .c rfl <| .c rfl <| .c rfl <| .c rfl <| .c rfl <| .c rfl <| .c rfl <| .c rfl <| .c rfl <| .c rfl <| .c rfl <| .c rfl <| .c rfl <| .c rfl <| .c rfl <| .n _) (.c rfl <| .c rfl <| .c rfl <| .n _)) ?_
              refine AWP.join' (S := fun p_259 : Int => ⟨[(0, .rd β1 a0.length (a0.flatMap encR38)), (1, .sc (.int .i64 a1)), (5, .sc (.int .i64 x_240.1)), (6, .sc (.bool x_240.2.1)), (8, .ptr 1 0), (10, .ptr 2 0), (11, .sc (.int .i64 p_259)), (15, .rd β1 a0.length (a0.flatMap encR38)), (16, .sc (.int .i64 (a0.length : Int))), (17, .sc (.int .i64 x_181.2.2)), (21, .rd β1 a0.length (a0.flatMap encR38)), (22, .sc (.int .i64 (a0.length : Int))), (23, .sc (.int .i64 x_240.2.2)), (27, .rd β1 a0.length (a0.flatMap encR38)), (28, .sc (.int .i64 (a0.length : Int))), (29, .sc (.int .i64 x_255.2))], [(1, ⟨40, false, [.sc (.int .i64 y_183.Release), .sc (.int .i64 y_183.Length), .sc (.int .i64 y_183.Due)]⟩), (2, ⟨40, false, [.sc (.int .i64 y_242.Release), .sc (.int .i64 y_242.Length), .sc (.int .i64 y_242.Due)]⟩)]⟩) h (fun p_259 h => ?_) (fun k_260 h => ?_)
              · obtain ⟨t29_261, ht29_261, h⟩ := letS h
                refine AWP.region (.cons (.add (lt1 rfl) (.tmp rfl) (.const _ _ _)) <| .cons (.move (lt1 rfl) (.tmp rfl)) <| ARun.nil _ _ _) ?_
                exact endJ (p_259, t29_261) h (by subst ht29_261; exact VC.sub (.c rfl <| .c rfl <| .c rfl <| .c rfl <| .c rfl <| .c rfl <| .c rfl <| .c rfl <| .c rfl <| .c rfl <| .c rfl <| .c rfl <| .c rfl <| .c rfl <| .c rfl <| .c rfl <| .n _) (.c rfl <| .c rfl <| .n _))
              · refine AWP.cond (.tmp rfl) (fun hc => ?_) (fun hc => ?_)
                · have h := iteT hc h
                  obtain ⟨t11_258, ht11_258, h⟩ := letS h
                  refine AWP.region (.cons (.move (lt1 rfl) (.tmp rfl)) <| .cons (.fieldP (lt1 rfl) (.tmp rfl) fld40_1) <| .cons (.loadP (lt1 rfl) (.tmp rfl) one3 rfl rfl rfl) <| .cons (.add (lt1 rfl) (.tmp rfl) (.tmp rfl)) <| .cons (.assign (lt1 rfl) (.tmp rfl)) <| ARun.nil _ _ _) ?_
                  exact endJ t11_258 h (by subst ht11_258; exact VC.sub (.c rfl <| .c rfl <| .c rfl <| .c rfl <| .c rfl <| .c rfl <| .c rfl <| .c rfl <| .c rfl <| .c rfl <| .c rfl <| .c rfl <| .c rfl <| .c rfl <| .c rfl <| .c rfl <| .n _) (.c rfl <| .c rfl <| .n _))
                · have h := iteF hc h
                  refine AWP.skip ?_
                  exact endJ x_255.1 h (VC.sub (.c rfl <| .c rfl <| .c rfl <| .c rfl <| .c rfl <| .c rfl <| .c rfl <| .c rfl <| .c rfl <| .c rfl <| .c rfl <| .c rfl <| .c rfl <| .c rfl <| .c rfl <| .c rfl <| .n _) (.c rfl <| .c rfl <| .n _))
            · have h := iteF hc h
              refine AWP.exit ?_
              exact endJ x_255.1 h (VC.sub (.c rfl <| .c rfl <| .c rfl <| .c rfl <| .c rfl <| .c rfl <| .c rfl <| .c rfl <| .c rfl <| .c rfl <| .c rfl <| .c rfl <| .c rfl <| .n _) (.c rfl <| .c rfl <| .n _))
        · have h := iteF hc h
          refine AWP.exit ?_
          exact endJ (x_240.1, x_240.2.1) h (VC.sub (.c rfl <| .c rfl <| .c rfl <| .c rfl <| .c rfl <| .c rfl <| .c rfl <| .n _) (.n _))
    · have h := iteF hc h
      refine AWP.exit ?_
      exact endJ x_181.1 h (VC.sub (.c rfl <| .n _) (.n _))
theorem c20 {β1 : Bool} (n : Nat) (a0 : (List R38)) {r : (Int × Int)} (h : m20 n a0 = some r) : Spec Try.prog 20 [] [.rd β1 a0.length (a0.flatMap encR38)] [] (.tup [.sc (.int .i64 r.1), .sc (.int .i64 r.2)]) [] := by
  refine Spec.of (fn := Try.f20) Try.func20 Try.ntmps20 rfl rfl (le1 rfl) (fun w0 Zs Zb T0 ι0 => ?_)
  unfold m20 at h
  refine AWP.seq ?_
  refine AWP.region (.cons (.assign (lt1 rfl) (.const _ _ _)) <| .cons (.assign (lt1 rfl) (.const _ _ _)) <| ARun.nil _ _ _) ?_
  refine AWP.vc (s' := ⟨[(0, .rd β1 a0.length (a0.flatMap encR38))], []⟩) (VC.sub (.c rfl <| .n _) (.n _)) ?_
  refine AWP.seq ?_
  refine AWP.seq ?_
  obtain ⟨y_1, hy_1, h⟩ := bindS h
  refine AWP.region (.cons (.move (lt1 rfl) (.tmp rfl)) <| .cons (.call0 (bw := false) (lt1 rfl) (c28 (β1 := β1) n a0 hy_1) (.cons (.tmp rfl) (.ren rfl) (.nil)) rfl) <| .cons (.not (lt1 rfl) (.tmp rfl)) <| ARun.nil _ _ _) ?_
  refine AWP.vc (s' := ⟨[(0, .rd β1 a0.length (a0.flatMap encR38)), (6, .sc (.bool (!y_1)))], []⟩) (VC.sub (.c rfl <| .c rfl <| .n _) (.n _)) ?_
  refine AWP.cond (.tmp rfl) (fun hc => ?_) (fun hc => ?_)
  · have h := iteT hc h
    refine AWP.seq ?_
    refine AWP.region (.cons (.assign (lt1 rfl) (.const _ _ _)) <| .cons (.assign (lt1 rfl) (.const _ _ _)) <| ARun.nil _ _ _) ?_
    refine AWP.ret ?_
    obtain rfl := Option.some.inj h
    refine retJ (Res.vc (s' := ⟨[(2, .sc (.int .i64 (0 : Int))), (3, .sc (.int .i64 (1 : Int)))], []⟩) (VC.sub (.c rfl <| .c rfl <| .n _) (.n _)) ?_)
    refine Res.drop (H := []) rfl ?_
    exact Res.of rfl (.cons (.tmp rfl) (.cons (.tmp rfl) (.nil))) rfl rfl
  · have h := iteF hc h
    refine AWP.skip ?_
    refine AWP.seq ?_
    obtain ⟨y_2, hy_2, h⟩ := bindS h
    refine AWP.region (.cons (.move (lt1 rfl) (.tmp rfl)) <| .cons (.call0 (bw := false) (lt1 rfl) (c43 (β1 := β1) n a0 (1 : Int) hy_2) (.cons (.tmp rfl) (.ren rfl) (.cons (.const _ _ _) (.ren rfl) (.nil))) rfl) <| .cons (.assign (lt1 rfl) (.tmp rfl)) <| .cons (.assign (lt1 rfl) (.const _ _ _)) <| ARun.nil _ _ _) ?_
    refine AWP.ret ?_
    obtain rfl := Option.some.inj h
    refine retJ (Res.vc (s' := ⟨[(2, .sc (.int .i64 y_2)), (3, .sc (.int .i64 (0 : Int)))], []⟩) (VC.sub (.c rfl <| .c rfl <| .n _) (.n _)) ?_)
    refine Res.drop (H := []) rfl ?_
    exact Res.of rfl (.cons (.tmp rfl) (.cons (.tmp rfl) (.nil))) rfl rfl
theorem c19 {β1 : Bool} {β2 : Bool} (n : Nat) (a0 : (List Int)) (a1 : (List Int)) {r : Bool} (h : m19 n a0 a1 = some r) : Spec Try.prog 19 [] [.rd β1 a0.length (a0.flatMap (encI .i64)), .rd β2 a1.length (a1.flatMap (encI .i64))] [] (.sc (.bool r)) [] := by
  refine Spec.of (fn := Try.f19) Try.func19 Try.ntmps19 rfl rfl (le1 rfl) (fun w0 Zs Zb T0 ι0 => ?_)
  unfold m19 at h
  refine AWP.seq ?_
  refine AWP.region (.cons (.assign (lt1 rfl) (.const _ _ _)) <| ARun.nil _ _ _) ?_
  refine AWP.vc (s' := ⟨[(0, .rd β1 a0.length (a0.flatMap (encI .i64))), (1, .rd β2 a1.length (a1.flatMap (encI .i64)))], []⟩) (VC.sub (.c rfl <| .c rfl <| .n _) (.n _)) ?_
  refine AWP.seq ?_
  refine AWP.seq ?_
  refine AWP.region (.cons (.move (lt1 rfl) (.tmp rfl)) <| .cons (.lenRd (lt1 rfl) (.tmp rfl) Try.underlying26) <| .cons (.move (lt1 rfl) (.tmp rfl)) <| .cons (.lenRd (lt1 rfl) (.tmp rfl) Try.underlying26) <| .cons (.neq (lt1 rfl) (.tmp rfl) (.tmp rfl)) <| ARun.nil _ _ _) ?_
  refine AWP.vc (s' := ⟨[(0, .rd β1 a0.length (a0.flatMap (encI .i64))), (1, .rd β2 a1.length (a1.flatMap (encI .i64))), (10, .sc (.bool (!decide ((a0.length : Int) = (a1.length : Int)))))], []⟩) (VC.sub (.c rfl <| .c rfl <| .c rfl <| .n _) (.n _)) ?_
  refine AWP.cond (.tmp rfl) (fun hc => ?_) (fun hc => ?_)
  · have h := iteT hc h
    refine AWP.seq ?_
    refine AWP.region (.cons (.assign (lt1 rfl) (.const _ _ _)) <| ARun.nil _ _ _) ?_
    refine AWP.ret ?_
    obtain rfl := Option.some.inj h
    refine retJ (Res.vc (s' := ⟨[(4, .sc (.bool false))], []⟩) (VC.sub (.c rfl <| .n _) (.n _)) ?_)
    refine Res.drop (H := []) rfl ?_
    exact Res.of rfl (.cons (.tmp rfl) (.nil)) rfl rfl
  · have h := iteF hc h
    refine AWP.skip ?_
    refine AWP.seq ?_
    refine AWP.seq ?_
    refine AWP.region (.cons (.assign (lt1 rfl) (.const _ _ _)) <| ARun.nil _ _ _) ?_
    refine AWP.vc (s' := ⟨[(0, .rd β1 a0.length (a0.flatMap (encI .i64))), (1, .rd β2 a1.length (a1.flatMap (encI .i64))), (5, .sc (.int .i64 (0 : Int)))], []⟩) (VC.sub (.c rfl <| .c rfl <| .c rfl <| .n _) (.n _)) ?_
    refine AWP.joinB' (S := fun p_14 : Unit => ⟨[], []⟩) h (fun p_14 h => ?_) (fun k_15 h => ?_)
    · refine AWP.seq ?_
      refine AWP.region (.cons (.assign (lt1 rfl) (.const _ _ _)) <| ARun.nil _ _ _) ?_
      refine AWP.ret ?_
      obtain rfl := Option.some.inj h
      refine retJ (Res.vc (s' := ⟨[(4, .sc (.bool true))], []⟩) (VC.sub (.c rfl <| .n _) (.n _)) ?_)
      refine Res.drop (H := []) rfl ?_
      exact Res.of rfl (.cons (.tmp rfl) (.nil)) rfl rfl
    · refine AWP.vc (s' := ⟨[(0, .rd β1 a0.length (a0.flatMap (encI .i64))), (1, .rd β2 a1.length (a1.flatMap (encI .i64))), (5, .sc (.int .i64 (0 : Int)))], []⟩) (VC.sub (.c rfl <| .c rfl <| .c rfl <| .n _) (.n _)) ?_
      refine AWP.loopM (S := fun x_9 : Int => ⟨[(0, .rd β1 a0.length (a0.flatMap (encI .i64))), (1, .rd β2 a1.length (a1.flatMap (encI .i64))), (5, .sc (.int .i64 x_9))], []⟩) (x := (0 : Int)) (fun nx_10 x_9 h => ?_) h
      unfold m19_L1 at h
      refine AWP.seq ?_
      refine AWP.seq ?_
      refine AWP.region (.cons (.move (lt1 rfl) (.tmp rfl)) <| .cons (.move (lt1 rfl) (.tmp rfl)) <| .cons (.lenRd (lt1 rfl) (.tmp rfl) Try.underlying26) <| .cons (.lss (lt1 rfl) (.tmp rfl) (.tmp rfl)) <| ARun.nil _ _ _) ?_
      refine AWP.vc (s' := ⟨[(0, .rd β1 a0.length (a0.flatMap (encI .i64))), (1, .rd β2 a1.length (a1.flatMap (encI .i64))), (5, .sc (.int .i64 x_9)), (14, .sc (.bool (decide (x_9 < (a0.length : Int)))))], []⟩) (VC.sub (.c rfl <| .c rfl <| .c rfl <| .c rfl <| .n _) (.n _)) ?_
      refine AWP.cond (.tmp rfl) (fun hc => ?_) (fun hc => ?_)
      · have h := iteT hc h
        refine AWP.skip ?_
        refine AWP.seq ?_
        refine AWP.block ?_
        refine AWP.seq ?_
        obtain ⟨y_11, hy_11, h⟩ := bindS h
        obtain ⟨y_12, hy_12, h⟩ := bindS h
        refine AWP.draw (s' := ⟨[(0, .rd β1 a0.length (a0.flatMap (encI .i64))), (1, .rd β2 a1.length (a1.flatMap (encI .i64))), (5, .sc (.int .i64 x_9)), (25, .sc (.bool (!decide (y_11 = y_12))))], []⟩) mixed [⟨0, .rd β1 a0.length (a0.flatMap (encI .i64)), none, []⟩, ⟨1, .rd β2 a1.length (a1.flatMap (encI .i64)), none, []⟩, ⟨5, .sc (.int .i64 x_9), none, []⟩, ⟨14, .sc (.bool (decide (x_9 < (a0.length : Int)))), none, []⟩, ⟨17, .rd β1 a0.length (a0.flatMap (encI .i64)), some 0, []⟩, ⟨18, .sc (.int .i64 x_9), some 1, []⟩, ⟨19, .rptr β1 [.sc (.int .i64 y_11)], some 2, []⟩, ⟨20, .sc (.int .i64 y_11), some 3, []⟩, ⟨21, .rd β2 a1.length (a1.flatMap (encI .i64)), some 4, []⟩, ⟨22, .sc (.int .i64 x_9), some 5, []⟩, ⟨23, .rptr β2 [.sc (.int .i64 y_12)], some 6, []⟩, ⟨24, .sc (.int .i64 y_12), some 7, []⟩, ⟨25, .sc (.bool (!decide (y_11 = y_12))), some 8, []⟩] [⟨[0], 0, 0, some (17, .rd β1 a0.length (a0.flatMap (encI .i64))), []⟩, ⟨[2], 0, 0, some (18, .sc (.int .i64 x_9)), []⟩, ⟨[4, 5], 0, 0, some (19, .rptr β1 [.sc (.int .i64 y_11)]), []⟩, ⟨[6], 0, 0, some (20, .sc (.int .i64 y_11)), []⟩, ⟨[1], 0, 0, some (21, .rd β2 a1.length (a1.flatMap (encI .i64))), []⟩, ⟨[2], 0, 0, some (22, .sc (.int .i64 x_9)), []⟩, ⟨[8, 9], 0, 0, some (23, .rptr β2 [.sc (.int .i64 y_12)]), []⟩, ⟨[10], 0, 0, some (24, .sc (.int .i64 y_12)), []⟩, ⟨[7, 11], 0, 0, some (25, .sc (.bool (!decide (y_11 = y_12)))), []⟩] [] [[]] [[], [], [0, 1], [0, 1, 2], [], [], [4, 5], [4, 5, 6], [0, 1, 2, 3, 4, 5, 6, 7]] (by kernel_rfl) (by kernel_rfl) (BornL.ok (.o <| .o <| .o <| .o <| .b rfl rfl <| .b rfl rfl <| .b rfl rfl <| .b rfl rfl <| .b rfl rfl <| .b rfl rfl <| .b rfl rfl <| .b rfl rfl <| .b rfl rfl <| .n)) (BaseL.ok (.o rfl <| .o rfl <| .o rfl <| .o rfl <| .b <| .b <| .b <| .b <| .b <| .b <| .b <| .b <| .b <| .n)) rfl (by decide) (allLt rfl) (.pure rfl (fun H => .put (fun E hE => .move (lt1 rfl) (.tmp (hE.at (k := 0) rfl)))) <| .pure rfl (fun H => .put (fun E hE => .move (lt1 rfl) (.tmp (hE.at (k := 0) rfl)))) <| .pure rfl (fun H => .put (fun E hE => .indexRd (enc := (encI .i64)) (lt1 rfl) (.tmp (hE.at (k := 0) rfl)) (.tmp (hE.at (k := 1) rfl)) Try.underlying26 sz3 (encI_len .i64) rfl hy_11)) <| .pure rfl (fun H => .put (fun E hE => .loadR (v := .sc (.int .i64 y_11)) (lt1 rfl) (.tmp (hE.at (k := 0) rfl)) one3 rfl)) <| .pure rfl (fun H => .put (fun E hE => .move (lt1 rfl) (.tmp (hE.at (k := 0) rfl)))) <| .pure rfl (fun H => .put (fun E hE => .move (lt1 rfl) (.tmp (hE.at (k := 0) rfl)))) <| .pure rfl (fun H => .put (fun E hE => .indexRd (enc := (encI .i64)) (lt1 rfl) (.tmp (hE.at (k := 0) rfl)) (.tmp (hE.at (k := 1) rfl)) Try.underlying26 sz3 (encI_len .i64) rfl hy_12)) <| .pure rfl (fun H => .put (fun E hE => .loadR (v := .sc (.int .i64 y_12)) (lt1 rfl) (.tmp (hE.at (k := 0) rfl)) one3 rfl)) <| .pure rfl (fun H => .put (fun E hE => .neq (lt1 rfl) (.tmp (hE.at (k := 0) rfl)) (.tmp (hE.at (k := 1) rfl)))) <| .nil _) (fun E hE => .c (DInv.at hE (k := 0) rfl rfl rfl) <| .c (DInv.at hE (k := 1) rfl rfl rfl) <| .c (DInv.at hE (k := 2) rfl rfl rfl) <| .c (DInv.at hE (k := 12) rfl rfl rfl) <| .n _) rfl ?_
        refine AWP.vc (s' := ⟨[(0, .rd β1 a0.length (a0.flatMap (encI .i64))), (1, .rd β2 a1.length (a1.flatMap (encI .i64))), (5, .sc (.int .i64 x_9)), (25, .sc (.bool (!decide (y_11 = y_12))))], []⟩) (VC.sub (.c rfl <| .c rfl <| .c rfl <| .c rfl <| .n _) (.n _)) ?_
        refine AWP.cond (.tmp rfl) (fun hc => ?_) (fun hc => ?_)
        · have h := iteT hc h
          refine AWP.seq ?_
          refine AWP.region (.cons (.assign (lt1 rfl) (.const _ _ _)) <| ARun.nil _ _ _) ?_
          refine AWP.ret ?_
          obtain rfl := Option.some.inj h
          refine retJ (Res.vc (s' := ⟨[(4, .sc (.bool false))], []⟩) (VC.sub (.c rfl <| .n _) (.n _)) ?_)
          refine Res.drop (H := []) rfl ?_
          exact Res.of rfl (.cons (.tmp rfl) (.nil)) rfl rfl
        · have h := iteF hc h
          refine AWP.skip ?_
          obtain ⟨t5_13, ht5_13, h⟩ := letS h
          refine AWP.region (.cons (.move (lt1 rfl) (.tmp rfl)) <| .cons (.add (lt1 rfl) (.tmp rfl) (.const _ _ _)) <| .cons (.assign (lt1 rfl) (.tmp rfl)) <| ARun.nil _ _ _) ?_
          exact endJ t5_13 h (by subst ht5_13; exact VC.sub (.c rfl <| .c rfl <| .c rfl <| .n _) (.n _))
      · have h := iteF hc h
        refine AWP.exit ?_
        exact endJ () h (VC.sub (.n _) (.n _))
theorem c10 (n : Nat) {r : Bool} (h : m10 n = some r) : Spec Try.prog 10 [] [] [] (.sc (.bool r)) [] := by
  refine Spec.of (fn := Try.f10) Try.func10 Try.ntmps10 rfl rfl (le1 rfl) (fun w0 Zs Zb T0 ι0 => ?_)
  unfold m10 at h
  refine AWP.seq ?_
  refine AWP.region (.cons (.assign (lt1 rfl) (.const _ _ _)) <| ARun.nil _ _ _) ?_
  refine AWP.vc (s' := ⟨[], []⟩) (VC.sub (.n _) (.n _)) ?_
  refine AWP.seq ?_
  obtain ⟨l1_1, hl1_1, h⟩ := letS h
  refine AWP.region (.cons (.buildO (offs := [(0, 1), (1, 1), (2, 1)]) (lt1 rfl) (.cons (.const _ _ _) (by first | exact ⟨rfl, rfl⟩ | rfl) (.cons (.const _ _ _) (by first | exact ⟨rfl, rfl⟩ | rfl) (.nil))) zero40 offs40 rfl) <| .cons (.buildO (offs := [(0, 1), (1, 1), (2, 1)]) (lt1 rfl) (.cons (.const _ _ _) (by first | exact ⟨rfl, rfl⟩ | rfl) (.cons (.const _ _ _) (by first | exact ⟨rfl, rfl⟩ | rfl) (.cons (.const _ _ _) (by first | exact ⟨rfl, rfl⟩ | rfl) (.nil)))) zero40 offs40 rfl) <| .cons (.buildSlice (t := 1) (out := ([(R38.mk (0 : Int) (5 : Int) (6 : Int)), (R38.mk (1 : Int) (2 : Int) (3 : Int))] : List R38).flatMap encR38) (lt1 rfl) (nm rfl) (.cons (.tmp rfl) (by first | exact ⟨rfl, rfl⟩ | rfl) (.cons (.tmp rfl) (by first | exact ⟨rfl, rfl⟩ | rfl) (.nil))) Try.underlying30 zero40 el40 (by decide) (by decide) rfl (still_all encR38_still _)) <| .cons (.assign (lt1 rfl) (.tmp rfl)) <| ARun.nil _ _ _) ?_
  refine AWP.vc (s' := ⟨[(1, .own 1 3 0 l1_1.length)], [(1, ⟨40, true, l1_1.flatMap encR38⟩)]⟩) (by subst hl1_1; exact VC.sub (.c rfl <| .n _) (.c rfl <| .n _)) ?_
  refine AWP.seq ?_
  obtain ⟨y_2, hy_2, h⟩ := bindS h
  refine AWP.region (.cons (.move (lt1 rfl) (.tmp rfl)) <| .cons (.buildSlice (t := 2) (out := ([(0 : Int), (1 : Int)] : List Int).flatMap (encI .i64)) (lt1 rfl) (nm rfl) (.cons (.const _ _ _) (by first | exact ⟨rfl, rfl⟩ | rfl) (.cons (.const _ _ _) (by first | exact ⟨rfl, rfl⟩ | rfl) (.nil))) Try.underlying26 zero3 el3 (by decide) (by decide) rfl (still_all (encI_still .i64) _)) <| .cons (.call0 (bw := true) (lt1 rfl) (c26 (β1 := true) (β2 := true) n l1_1 ([(0 : Int), (1 : Int)] : List Int) hy_2) (.cons (.tmp rfl) (.lendRow rfl rfl encR38_len rfl) (.cons (.tmp rfl) (.lendRow rfl rfl (encI_len .i64) rfl) (.nil))) rfl) <| .cons (.move (lt1 rfl) (.tmp rfl)) <| .cons (.extract (lt1 rfl) (.tmp rfl) rfl) <| .cons (.extract (lt1 rfl) (.tmp rfl) rfl) <| .cons (.assign (lt1 rfl) (.tmp rfl)) <| .cons (.assign (lt1 rfl) (.tmp rfl)) <| ARun.nil _ _ _) ?_
  refine AWP.vc (s' := ⟨[(1, .own 1 3 0 l1_1.length), (2, .sc (.int .i64 y_2.1)), (3, .sc (.int .i64 y_2.2))], [(1, ⟨40, true, l1_1.flatMap encR38⟩)]⟩) (VC.sub (.c rfl <| .c rfl <| .c rfl <| .n _) (.c rfl <| .n _)) ?_
  refine AWP.seq ?_
  obtain ⟨y_3, hy_3, h⟩ := bindS h
  refine AWP.region (.cons (.move (lt1 rfl) (.tmp rfl)) <| .cons (.call0 (bw := true) (lt1 rfl) (c12 (β1 := true) n l1_1 false hy_3) (.cons (.tmp rfl) (.lendRow rfl rfl encR38_len rfl) (.cons (.const _ _ _) (.ren rfl) (.nil))) rfl) <| .cons (.move (lt1 rfl) (.tmp rfl)) <| .cons (.extract (lt1 rfl) (.tmp rfl) rfl) <| .cons (.extract (lt1 rfl) (.tmp rfl) rfl) <| .cons (.extract (lt1 rfl) (.tmp rfl) rfl) <| .cons (.assign (lt1 rfl) (.tmp rfl)) <| .cons (.assign (lt1 rfl) (.tmp rfl)) <| .cons (.assign (lt1 rfl) (.tmp rfl)) <| ARun.nil _ _ _) ?_
  refine AWP.vc (s' := ⟨[(1, .own 1 3 0 l1_1.length), (2, .sc (.int .i64 y_2.1)), (3, .sc (.int .i64 y_2.2)), (4, .rd false y_3.1.length (y_3.1.flatMap (encI .i64))), (5, .sc (.int .i64 y_3.2.1)), (6, .sc (.int .i64 y_3.2.2))], [(1, ⟨40, true, l1_1.flatMap encR38⟩)]⟩) (VC.sub (.c rfl <| .c rfl <| .c rfl <| .c rfl <| .c rfl <| .c rfl <| .n _) (.c rfl <| .n _)) ?_
  refine AWP.seq ?_
  obtain ⟨y_4, hy_4, h⟩ := bindS h
  refine AWP.region (.cons (.move (lt1 rfl) (.tmp rfl)) <| .cons (.call0 (bw := true) (lt1 rfl) (c20 (β1 := true) n l1_1 hy_4) (.cons (.tmp rfl) (.lendRow rfl rfl encR38_len rfl) (.nil)) rfl) <| .cons (.move (lt1 rfl) (.tmp rfl)) <| .cons (.extract (lt1 rfl) (.tmp rfl) rfl) <| .cons (.extract (lt1 rfl) (.tmp rfl) rfl) <| .cons (.assign (lt1 rfl) (.tmp rfl)) <| .cons (.assign (lt1 rfl) (.tmp rfl)) <| ARun.nil _ _ _) ?_
  refine AWP.vc (s' := ⟨[(1, .own 1 3 0 l1_1.length), (2, .sc (.int .i64 y_2.1)), (3, .sc (.int .i64 y_2.2)), (4, .rd false y_3.1.length (y_3.1.flatMap (encI .i64))), (5, .sc (.int .i64 y_3.2.1)), (6, .sc (.int .i64 y_3.2.2)), (7, .sc (.int .i64 y_4.1)), (8, .sc (.int .i64 y_4.2))], [(1, ⟨40, true, l1_1.flatMap encR38⟩)]⟩) (VC.sub (.c rfl <| .c rfl <| .c rfl <| .c rfl <| .c rfl <| .c rfl <| .c rfl <| .c rfl <| .n _) (.c rfl <| .n _)) ?_
  refine AWP.seq ?_
  obtain ⟨y_5, hy_5, h⟩ := bindS h
  obtain ⟨y_6, hy_6, h⟩ := bindS h
  obtain ⟨t0_7, ht0_7, h⟩ := letS h
  refine AWP.region (.cons (.move (lt1 rfl) (.tmp rfl)) <| .cons (.eql (lt1 rfl) (.tmp rfl) (.const _ _ _)) <| .cons (.move (lt1 rfl) (.tmp rfl)) <| .guard (j := 2) (dj := 31) rfl (lt1 rfl) rfl (lt1 rfl) (fun hg => .move (lt1 rfl) (.tmp rfl)) <| .guard (j := 2) (dj := 31) rfl (lt1 rfl) rfl (lt1 rfl) (fun hg => .eql (lt1 rfl) (.gd hg (.tmp rfl)) (.const _ _ _)) <| .cons (.pickAnd (lt1 rfl) (.tmp rfl) (.tmp rfl) (.const _ _ _)) <| .cons (.move (lt1 rfl) (.tmp rfl)) <| .guard (j := 6) (dj := 35) rfl (lt1 rfl) rfl (lt1 rfl) (fun hg => .move (lt1 rfl) (.tmp rfl)) <| .guard (j := 6) (dj := 35) rfl (lt1 rfl) rfl (lt1 rfl) (fun hg => .eql (lt1 rfl) (.gd hg (.tmp rfl)) (.const _ _ _)) <| .cons (.pickAnd (lt1 rfl) (.tmp rfl) (.tmp rfl) (.const _ _ _)) <| .cons (.move (lt1 rfl) (.tmp rfl)) <| .guard (j := 10) (dj := 39) rfl (lt1 rfl) rfl (lt1 rfl) (fun hg => .move (lt1 rfl) (.tmp rfl)) <| .guard (j := 10) (dj := 39) rfl (lt1 rfl) rfl (lt1 rfl) (fun hg => .eql (lt1 rfl) (.gd hg (.tmp rfl)) (.const _ _ _)) <| .cons (.pickAnd (lt1 rfl) (.tmp rfl) (.tmp rfl) (.const _ _ _)) <| .cons (.move (lt1 rfl) (.tmp rfl)) <| .guard (j := 14) (dj := 43) rfl (lt1 rfl) rfl (lt1 rfl) (fun hg => .move (lt1 rfl) (.tmp rfl)) <| .guard (j := 14) (dj := 43) rfl (lt1 rfl) rfl (lt1 rfl) (fun hg => .eql (lt1 rfl) (.gd hg (.tmp rfl)) (.const _ _ _)) <| .cons (.pickAnd (lt1 rfl) (.tmp rfl) (.tmp rfl) (.const _ _ _)) <| .cons (.move (lt1 rfl) (.tmp rfl)) <| .guard (j := 18) (dj := 47) rfl (lt1 rfl) rfl (lt1 rfl) (fun hg => .move (lt1 rfl) (.tmp rfl)) <| .guard (j := 18) (dj := 47) rfl (lt1 rfl) rfl (lt1 rfl) (fun hg => .eql (lt1 rfl) (.gd hg (.tmp rfl)) (.const _ _ _)) <| .cons (.pickAnd (lt1 rfl) (.tmp rfl) (.tmp rfl) (.const _ _ _)) <| .cons (.move (lt1 rfl) (.tmp rfl)) <| .guard (j := 22) (dj := 51) rfl (lt1 rfl) rfl (lt1 rfl) (fun hg => .move (lt1 rfl) (.tmp rfl)) <| .guard (j := 22) (dj := 51) rfl (lt1 rfl) rfl (lt1 rfl) (fun hg => .frzAny (fun t ht => AStep.buildSlice (t := t) (out := ([(1 : Int), (0 : Int)] : List Int).flatMap (encI .i64)) (lt1 rfl) ht (.cons (.const _ _ _) (by first | exact ⟨rfl, rfl⟩ | rfl) (.cons (.const _ _ _) (by first | exact ⟨rfl, rfl⟩ | rfl) (.nil))) Try.underlying26 zero3 el3 (by decide) (by decide) rfl (still_all (encI_still .i64) _)) rfl (encI_len .i64)) <| .guard (j := 22) (dj := 51) rfl (lt1 rfl) rfl (lt1 rfl) (fun hg => .call0 (bw := false) (lt1 rfl) (c19 (β1 := false) (β2 := false) n y_3.1 ([(1 : Int), (0 : Int)] : List Int) (gdB hy_5 hg)) (.cons (.gd hg (.tmp rfl)) (.ren rfl) (.cons (.gd hg (.tmp rfl)) (.ren rfl) (.nil))) rfl) <| .cons (.pickAnd (lt1 rfl) (.tmp rfl) (.tmp rfl) (.const _ _ _)) <| .cons (.move (lt1 rfl) (.tmp rfl)) <| .guard (j := 27) (dj := 56) rfl (lt1 rfl) rfl (lt1 rfl) (fun hg => .move (lt1 rfl) (.tmp rfl)) <| .guard (j := 27) (dj := 56) rfl (lt1 rfl) rfl (lt1 rfl) (fun hg => .call0 (bw := true) (lt1 rfl) (c28 (β1 := true) n l1_1 (gdB hy_6 hg)) (.cons (.gd hg (.tmp rfl)) (.lendRow rfl rfl encR38_len rfl) (.nil)) rfl) <| .cons (.pickAnd (lt1 rfl) (.tmp rfl) (.tmp rfl) (.const _ _ _)) <| .cons (.assign (lt1 rfl) (.tmp rfl)) <| ARun.nil _ _ _) ?_
  refine AWP.ret ?_
  obtain rfl := Option.some.inj h
  refine retJ (Res.vc (s' := ⟨[(0, .sc (.bool t0_7))], []⟩) (by subst ht0_7; exact VC.sub (.c rfl <| .n _) (.n _)) ?_)
  refine Res.drop (H := []) rfl ?_
  exact Res.of rfl (.cons (.tmp rfl) (.nil)) rfl rfl
end Go.AB
