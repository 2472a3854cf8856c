import Derived.Test.YtpccmcepgllccaaProg
import Derived.Test.YtpccmcepgllccaaF0a
import Derived.KernelRfl
set_option linter.unusedVariables false
set_option maxRecDepth 20000
namespace Go.AB
open Go Go.Proofs
theorem c11 {β1 : Bool} (n : Nat) (a0 : (List R38)) {r : Bool} (h : m11 n a0 = some r) : Spec Try.prog 11 [] [.rd β1 a0.length (a0.flatMap encR38)] [] (.sc (.bool r)) [] := by
  refine Spec.of (fn := Try.f11) Try.func11 Try.ntmps11 rfl rfl (le1 rfl) (fun w0 Zs Zb T0 ι0 => ?_)
  unfold m11 at h
  refine AWP.seq ?_
  refine AWP.region (.cons (.assign (lt1 rfl) (.const _ _ _)) <| ARun.nil _ _ _) ?_
  refine AWP.vc (s' := ⟨[(0, .rd β1 a0.length (a0.flatMap encR38))], []⟩) (VC.sub (.c rfl <| .n _) (.n _)) ?_
  refine AWP.seq ?_
  refine AWP.region (.cons (.move (lt1 rfl) (.tmp rfl)) <| .cons (.lenRd (lt1 rfl) (.tmp rfl) Try.underlying22) <| .cons (.leq (lt1 rfl) (.tmp rfl) (.const _ _ _)) <| .cons (.assign (lt1 rfl) (.tmp rfl)) <| ARun.nil _ _ _) ?_
  refine AWP.ret ?_
  obtain rfl := Option.some.inj h
  refine retJ (Res.vc (s' := ⟨[(2, .sc (.bool (decide ((a0.length : Int) ≤ (10 : Int)))))], []⟩) (VC.sub (.c rfl <| .n _) (.n _)) ?_)
  refine Res.drop (H := []) rfl ?_
  exact Res.of rfl (.cons (.tmp rfl) (.nil)) rfl rfl
theorem c13 {β1 : Bool} (n : Nat) (a0 : (List R38)) {r : (List R38)} (h : m13 n a0 = some r) : Spec Try.prog 13 [] [.rd β1 a0.length (a0.flatMap encR38)] [] (.rd false r.length (r.flatMap encR38)) [] := by
  refine Spec.of (fn := Try.f13) Try.func13 Try.ntmps13 rfl rfl (le1 rfl) (fun w0 Zs Zb T0 ι0 => ?_)
  unfold m13 at h
  refine AWP.seq ?_
  refine AWP.region (.cons (.assign (lt1 rfl) (.const _ _ _)) <| ARun.nil _ _ _) ?_
  refine AWP.vc (s' := ⟨[(0, .rd β1 a0.length (a0.flatMap encR38))], []⟩) (VC.sub (.c rfl <| .n _) (.n _)) ?_
  refine AWP.seq ?_
  refine AWP.region (.cons (.assign (lt1 rfl) (.const _ _ _)) <| ARun.nil _ _ _) ?_
  refine AWP.vc (s' := ⟨[(0, .rd β1 a0.length (a0.flatMap encR38)), (3, .sc (.slice none 0 0))], []⟩) (VC.sub (.c rfl <| .c rfl <| .n _) (.n _)) ?_
  refine AWP.seq ?_
  refine AWP.seq ?_
  refine AWP.region (.cons (.move (lt1 rfl) (.tmp rfl)) <| .cons (.lenRd (lt1 rfl) (.tmp rfl) Try.underlying22) <| .cons (.move (lt1 rfl) (.const _ _ _)) <| ARun.nil _ _ _) ?_
  refine AWP.vc (s' := ⟨[(3, .sc (.slice none 0 0)), (6, .rd β1 a0.length (a0.flatMap encR38)), (7, .sc (.int .i64 (a0.length : Int))), (8, .sc (.int .i64 (0 : Int)))], []⟩) (VC.sub (.c rfl <| .c rfl <| .c rfl <| .c rfl <| .n _) (.n _)) ?_
  refine AWP.joinB' (S := fun p_14 : (List R38) => ⟨[(3, .own 1 3 0 p_14.length)], [(1, ⟨40, true, p_14.flatMap encR38⟩)]⟩) h (fun p_14 h => ?_) (fun k_15 h => ?_)
  · refine AWP.seq ?_
    refine AWP.region (.cons (.move (lt1 rfl) (.tmp rfl)) <| .cons (.assign (lt1 rfl) (.tmp rfl)) <| ARun.nil _ _ _) ?_
    refine AWP.ret ?_
    obtain rfl := Option.some.inj h
    refine retJ (Res.vc (s' := ⟨[(2, .rd false p_14.length (p_14.flatMap encR38))], []⟩) (VC.trans (VC.frz (d := 2) (t := 1) rfl rfl encR38_len) (VC.sub (.c rfl <| .n _) (.n _))) ?_)
    refine Res.drop (H := []) rfl ?_
    exact Res.of rfl (.cons (.tmp rfl) (.nil)) rfl rfl
  · refine AWP.vc (VC.nilOwn (d := 3) (t := 1) (sz := 3) (E := 40) rfl (nm rfl)) ?_
    refine AWP.vc (s' := ⟨[(3, .own 1 3 0 ([] : List R38).length), (6, .rd β1 a0.length (a0.flatMap encR38)), (7, .sc (.int .i64 (a0.length : Int))), (8, .sc (.int .i64 (0 : Int)))], [(1, ⟨40, true, ([] : List R38).flatMap encR38⟩)]⟩) (VC.sub (.c rfl <| .c rfl <| .c rfl <| .c rfl <| .n _) (.c rfl <| .n _)) ?_
    refine AWP.loopM (S := fun x_9 : Int × (List R38) => ⟨[(3, .own 1 3 0 x_9.2.length), (6, .rd β1 a0.length (a0.flatMap encR38)), (7, .sc (.int .i64 (a0.length : Int))), (8, .sc (.int .i64 x_9.1))], [(1, ⟨40, true, x_9.2.flatMap encR38⟩)]⟩) (x := ((0 : Int), ([] : List R38))) (fun nx_10 x_9 h => ?_) h
    unfold m13_L1 at h
    refine AWP.seq ?_
    refine AWP.region (.cons (.lss (lt1 rfl) (.tmp rfl) (.tmp rfl)) <| ARun.nil _ _ _) ?_
    refine AWP.vc (s' := ⟨[(3, .own 1 3 0 x_9.2.length), (6, .rd β1 a0.length (a0.flatMap encR38)), (7, .sc (.int .i64 (a0.length : Int))), (8, .sc (.int .i64 x_9.1)), (9, .sc (.bool (decide (x_9.1 < (a0.length : Int)))))], [(1, ⟨40, true, x_9.2.flatMap encR38⟩)]⟩) (VC.sub (.c rfl <| .c rfl <| .c rfl <| .c rfl <| .c rfl <| .n _) (.c rfl <| .n _)) ?_
    refine AWP.seq ?_
    refine AWP.cond (.tmp rfl) (fun hc => ?_) (fun hc => ?_)
    · have h := iteT hc h
      refine AWP.skip ?_
      refine AWP.seq ?_
      refine AWP.block ?_
      refine AWP.seq ?_
      obtain ⟨y_11, hy_11, h⟩ := bindS h
      refine AWP.region (.cons (.indexRd (enc := encR38) (lt1 rfl) (.tmp rfl) (.tmp rfl) Try.underlying22 sz39 encR38_len rfl hy_11) <| .cons (.loadRA (out := [.sc (.int .i64 y_11.Release), .sc (.int .i64 y_11.Length), .sc (.int .i64 y_11.Due)]) (lt1 rfl) (.tmp rfl) agg39 (Nat.le_of_eq (Eq.symm (encR38_len _))) rfl) <| .cons (.alloc (t := 2) (k := ⟨39, false, [.sc (.int .i64 (0 : Int)), .sc (.int .i64 (0 : Int)), .sc (.int .i64 (0 : Int))]⟩) (lt1 rfl) (nm rfl) zero39 rfl rfl) <| .cons (.storePA (.tmp rfl) (.tmp rfl) sz39 rfl rfl (le1 rfl) (one_lit rfl) (by intro h; cases h) rfl) <| ARun.nil _ _ _) ?_
      refine AWP.vc (s' := ⟨[(3, .own 1 3 0 x_9.2.length), (6, .rd β1 a0.length (a0.flatMap encR38)), (7, .sc (.int .i64 (a0.length : Int))), (8, .sc (.int .i64 x_9.1)), (5, .ptr 2 0)], [(2, ⟨39, false, [.sc (.int .i64 y_11.Release), .sc (.int .i64 y_11.Length), .sc (.int .i64 y_11.Due)]⟩), (1, ⟨40, true, x_9.2.flatMap encR38⟩)]⟩) (VC.sub (.c rfl <| .c rfl <| .c rfl <| .c rfl <| .c rfl <| .n _) (.c rfl <| .c rfl <| .n _)) ?_
      obtain ⟨l1_12, hl1_12, h⟩ := bindS h
      refine AWP.region (.cons (.move (lt1 rfl) (.tmp rfl)) <| .cons (.loadPA (lt1 rfl) (.tmp rfl) agg39 rfl rfl rfl rfl) <| .cons (.buildSlice (t := 3) (out := ([(R38.mk y_11.Release y_11.Length y_11.Due)] : List R38).flatMap encR38) (lt1 rfl) (nm rfl) (.cons (.tmp rfl) (by first | exact ⟨rfl, rfl⟩ | rfl) (.nil)) Try.underlying30 zero40 el40 (by decide) (by decide) rfl (still_all encR38_still _)) <| .cons (.app (enc := encR38) (lt1 rfl) (nm rfl) (.tmp rfl) (Src.own (.tmp rfl) rfl (lendAll encR38_len _) (flatMap_length encR38_len _) (one_all encR38_one _) (.inl rfl)) Try.underlying30 ⟨_, Try.underlying30, by intro k hk; cases hk⟩ el40 rfl encR38_len rfl rfl (by decide) hl1_12) <| .cons (.assign (lt1 rfl) (.tmp rfl)) <| ARun.nil _ _ _) ?_
      refine AWP.vc (s' := ⟨[(3, .own 1 3 0 l1_12.length), (6, .rd β1 a0.length (a0.flatMap encR38)), (7, .sc (.int .i64 (a0.length : Int))), (8, .sc (.int .i64 x_9.1))], [(1, ⟨40, true, l1_12.flatMap encR38⟩)]⟩) (VC.sub (.c rfl <| .c rfl <| .c rfl <| .c rfl <| .n _) (.c rfl <| .n _)) ?_
      obtain ⟨t8_13, ht8_13, h⟩ := letS h
      refine AWP.region (.cons (.add (lt1 rfl) (.tmp rfl) (.const _ _ _)) <| .cons (.move (lt1 rfl) (.tmp rfl)) <| ARun.nil _ _ _) ?_
      exact endJ (t8_13, l1_12) h (by subst ht8_13; exact VC.sub (.c rfl <| .c rfl <| .c rfl <| .c rfl <| .n _) (.c rfl <| .n _))
    · have h := iteF hc h
      refine AWP.exit ?_
      exact endJ x_9.2 h (VC.sub (.c rfl <| .n _) (.c rfl <| .n _))
theorem c14 {β1 : Bool} (n : Nat) (a0 : (List R38)) {r : Bool} (h : m14 n a0 = some r) : Spec Try.prog 14 [] [.rd β1 a0.length (a0.flatMap encR38)] [] (.sc (.bool r)) [] := by
  refine Spec.of (fn := Try.f14) Try.func14 Try.ntmps14 rfl rfl (le1 rfl) (fun w0 Zs Zb T0 ι0 => ?_)
  unfold m14 at h
  refine AWP.seq ?_
  refine AWP.region (.cons (.assign (lt1 rfl) (.const _ _ _)) <| ARun.nil _ _ _) ?_
  refine AWP.vc (s' := ⟨[(0, .rd β1 a0.length (a0.flatMap encR38))], []⟩) (VC.sub (.c rfl <| .n _) (.n _)) ?_
  refine AWP.seq ?_
  refine AWP.seq ?_
  refine AWP.region (.cons (.assign (lt1 rfl) (.const _ _ _)) <| ARun.nil _ _ _) ?_
  refine AWP.vc (s' := ⟨[(0, .rd β1 a0.length (a0.flatMap encR38)), (3, .sc (.int .i64 (0 : Int)))], []⟩) (VC.sub (.c rfl <| .c rfl <| .n _) (.n _)) ?_
  refine AWP.joinB' (S := fun p_14 : Unit => ⟨[(0, .rd β1 a0.length (a0.flatMap encR38))], []⟩) h (fun p_14 h => ?_) (fun k_15 h => ?_)
  · refine AWP.seq ?_
    refine AWP.region (.cons (.move (lt1 rfl) (.tmp rfl)) <| .cons (.lenRd (lt1 rfl) (.tmp rfl) Try.underlying22) <| .cons (.leq (lt1 rfl) (.tmp rfl) (.const _ _ _)) <| .cons (.assign (lt1 rfl) (.tmp rfl)) <| ARun.nil _ _ _) ?_
    refine AWP.ret ?_
    obtain rfl := Option.some.inj h
    refine retJ (Res.vc (s' := ⟨[(2, .sc (.bool (decide ((a0.length : Int) ≤ (40 : Int)))))], []⟩) (VC.sub (.c rfl <| .n _) (.n _)) ?_)
    refine Res.drop (H := []) rfl ?_
    exact Res.of rfl (.cons (.tmp rfl) (.nil)) rfl rfl
  · refine AWP.vc (s' := ⟨[(0, .rd β1 a0.length (a0.flatMap encR38)), (3, .sc (.int .i64 (0 : Int)))], []⟩) (VC.sub (.c rfl <| .c rfl <| .n _) (.n _)) ?_
    refine AWP.loopM (S := fun x_9 : Int => ⟨[(0, .rd β1 a0.length (a0.flatMap encR38)), (3, .sc (.int .i64 x_9))], []⟩) (x := (0 : Int)) (fun nx_10 x_9 h => ?_) h
    unfold m14_L1 at h
    refine AWP.seq ?_
    refine AWP.seq ?_
    refine AWP.region (.cons (.move (lt1 rfl) (.tmp rfl)) <| .cons (.move (lt1 rfl) (.tmp rfl)) <| .cons (.lenRd (lt1 rfl) (.tmp rfl) Try.underlying22) <| .cons (.lss (lt1 rfl) (.tmp rfl) (.tmp rfl)) <| ARun.nil _ _ _) ?_
    refine AWP.vc (s' := ⟨[(0, .rd β1 a0.length (a0.flatMap encR38)), (3, .sc (.int .i64 x_9)), (8, .sc (.bool (decide (x_9 < (a0.length : Int)))))], []⟩) (VC.sub (.c rfl <| .c rfl <| .c rfl <| .n _) (.n _)) ?_
    refine AWP.cond (.tmp rfl) (fun hc => ?_) (fun hc => ?_)
    · have h := iteT hc h
      refine AWP.skip ?_
      refine AWP.seq ?_
      refine AWP.block ?_
      refine AWP.seq ?_
      obtain ⟨y_11, hy_11, h⟩ := bindS h
      refine AWP.region (.cons (.move (lt1 rfl) (.tmp rfl)) <| .cons (.move (lt1 rfl) (.tmp rfl)) <| .cons (.indexRd (enc := encR38) (lt1 rfl) (.tmp rfl) (.tmp rfl) Try.underlying22 sz39 encR38_len rfl hy_11) <| .cons (.loadRA (out := [.sc (.int .i64 y_11.Release), .sc (.int .i64 y_11.Length), .sc (.int .i64 y_11.Due)]) (lt1 rfl) (.tmp rfl) agg39 (Nat.le_of_eq (Eq.symm (encR38_len _))) rfl) <| .cons (.alloc (t := 1) (k := ⟨39, false, [.sc (.int .i64 (0 : Int)), .sc (.int .i64 (0 : Int)), .sc (.int .i64 (0 : Int))]⟩) (lt1 rfl) (nm rfl) zero39 rfl rfl) <| .cons (.storePA (.tmp rfl) (.tmp rfl) sz39 rfl rfl (le1 rfl) (one_lit rfl) (by intro h; cases h) rfl) <| ARun.nil _ _ _) ?_
      refine AWP.vc (s' := ⟨[(0, .rd β1 a0.length (a0.flatMap encR38)), (3, .sc (.int .i64 x_9)), (4, .ptr 1 0)], [(1, ⟨39, false, [.sc (.int .i64 y_11.Release), .sc (.int .i64 y_11.Length), .sc (.int .i64 y_11.Due)]⟩)]⟩) (VC.sub (.c rfl <| .c rfl <| .c rfl <| .n _) (.c rfl <| .n _)) ?_
      refine AWP.seq ?_
      obtain ⟨t42_12, ht42_12, h⟩ := letS h
      refine AWP.region (.cons (.fieldP (lt1 rfl) (.tmp rfl) fld39_0) <| .cons (.loadP (lt1 rfl) (.tmp rfl) one3 rfl rfl rfl) <| .cons (.lss (lt1 rfl) (.tmp rfl) (.const _ _ _)) <| .cons (.move (lt1 rfl) (.tmp rfl)) <| .guard (j := 3) (dj := 18) rfl (lt1 rfl) rfl (lt1 rfl) (fun hg => .fieldP (lt1 rfl) (.tmp rfl) fld39_0) <| .guard (j := 3) (dj := 18) rfl (lt1 rfl) rfl (lt1 rfl) (fun hg => .loadP (lt1 rfl) (.gd hg (.tmp rfl)) one3 rfl rfl rfl) <| .guard (j := 3) (dj := 18) rfl (lt1 rfl) rfl (lt1 rfl) (fun hg => .gtr (lt1 rfl) (.gd hg (.tmp rfl)) (.const _ _ _)) <| .cons (.pickOr (lt1 rfl) (.tmp rfl) (.const _ _ _) (.tmp rfl)) <| .cons (.move (lt1 rfl) (.tmp rfl)) <| .guard (j := 8) (dj := 23) rfl (lt1 rfl) rfl (lt1 rfl) (fun hg => .fieldP (lt1 rfl) (.tmp rfl) fld39_1) <| .guard (j := 8) (dj := 23) rfl (lt1 rfl) rfl (lt1 rfl) (fun hg => .loadP (lt1 rfl) (.gd hg (.tmp rfl)) one3 rfl rfl rfl) <| .guard (j := 8) (dj := 23) rfl (lt1 rfl) rfl (lt1 rfl) (fun hg => .lss (lt1 rfl) (.gd hg (.tmp rfl)) (.const _ _ _)) <| .cons (.pickOr (lt1 rfl) (.tmp rfl) (.const _ _ _) (.tmp rfl)) <| .cons (.move (lt1 rfl) (.tmp rfl)) <| .guard (j := 13) (dj := 28) rfl (lt1 rfl) rfl (lt1 rfl) (fun hg => .fieldP (lt1 rfl) (.tmp rfl) fld39_1) <| .guard (j := 13) (dj := 28) rfl (lt1 rfl) rfl (lt1 rfl) (fun hg => .loadP (lt1 rfl) (.gd hg (.tmp rfl)) one3 rfl rfl rfl) <| .guard (j := 13) (dj := 28) rfl (lt1 rfl) rfl (lt1 rfl) (fun hg => .gtr (lt1 rfl) (.gd hg (.tmp rfl)) (.const _ _ _)) <| .cons (.pickOr (lt1 rfl) (.tmp rfl) (.const _ _ _) (.tmp rfl)) <| .cons (.move (lt1 rfl) (.tmp rfl)) <| .guard (j := 18) (dj := 33) rfl (lt1 rfl) rfl (lt1 rfl) (fun hg => .fieldP (lt1 rfl) (.tmp rfl) fld39_2) <| .guard (j := 18) (dj := 33) rfl (lt1 rfl) rfl (lt1 rfl) (fun hg => .loadP (lt1 rfl) (.gd hg (.tmp rfl)) one3 rfl rfl rfl) <| .guard (j := 18) (dj := 33) rfl (lt1 rfl) rfl (lt1 rfl) (fun hg => .lss (lt1 rfl) (.gd hg (.tmp rfl)) (.const _ _ _)) <| .cons (.pickOr (lt1 rfl) (.tmp rfl) (.const _ _ _) (.tmp rfl)) <| .cons (.move (lt1 rfl) (.tmp rfl)) <| .guard (j := 23) (dj := 38) rfl (lt1 rfl) rfl (lt1 rfl) (fun hg => .fieldP (lt1 rfl) (.tmp rfl) fld39_2) <| .guard (j := 23) (dj := 38) rfl (lt1 rfl) rfl (lt1 rfl) (fun hg => .loadP (lt1 rfl) (.gd hg (.tmp rfl)) one3 rfl rfl rfl) <| .guard (j := 23) (dj := 38) rfl (lt1 rfl) rfl (lt1 rfl) (fun hg => .gtr (lt1 rfl) (.gd hg (.tmp rfl)) (.const _ _ _)) <| .cons (.pickOr (lt1 rfl) (.tmp rfl) (.const _ _ _) (.tmp rfl)) <| ARun.nil _ _ _) ?_
      refine AWP.vc (s' := ⟨[(0, .rd β1 a0.length (a0.flatMap encR38)), (3, .sc (.int .i64 x_9)), (42, .sc (.bool t42_12))], []⟩) (by subst ht42_12; exact VC.sub (.c rfl <| .c rfl <| .c rfl <| .n _) (.n _)) ?_
      refine AWP.cond (.tmp rfl) (fun hc => ?_) (fun hc => ?_)
      · have h := iteT hc h
        refine AWP.seq ?_
        refine AWP.region (.cons (.assign (lt1 rfl) (.const _ _ _)) <| ARun.nil _ _ _) ?_
        refine AWP.ret ?_
        obtain rfl := Option.some.inj h
        refine retJ (Res.vc (s' := ⟨[(2, .sc (.bool false))], []⟩) (VC.sub (.c rfl <| .n _) (.n _)) ?_)
        refine Res.drop (H := []) rfl ?_
        exact Res.of rfl (.cons (.tmp rfl) (.nil)) rfl rfl
      · have h := iteF hc h
        refine AWP.skip ?_
        obtain ⟨t3_13, ht3_13, h⟩ := letS h
        refine AWP.region (.cons (.move (lt1 rfl) (.tmp rfl)) <| .cons (.add (lt1 rfl) (.tmp rfl) (.const _ _ _)) <| .cons (.assign (lt1 rfl) (.tmp rfl)) <| ARun.nil _ _ _) ?_
        exact endJ t3_13 h (by subst ht3_13; exact VC.sub (.c rfl <| .c rfl <| .n _) (.n _))
    · have h := iteF hc h
      refine AWP.exit ?_
      exact endJ () h (VC.sub (.c rfl <| .n _) (.n _))
theorem c41 {β1 : Bool} (n : Nat) (a0 : (List Int)) (a1 : Int) {r : Bool} (h : m41 n a0 a1 = some r) : Spec Try.prog 41 [] [.rd β1 a0.length (a0.flatMap (encI .i64)), .sc (.int .i64 a1)] [] (.sc (.bool r)) [] := by
  refine Spec.of (fn := Try.f41) Try.func41 Try.ntmps41 rfl rfl (le1 rfl) (fun w0 Zs Zb T0 ι0 => ?_)
  unfold m41 at h
  refine AWP.seq ?_
  refine AWP.region (.cons (.assign (lt1 rfl) (.const _ _ _)) <| ARun.nil _ _ _) ?_
  refine AWP.vc (s' := ⟨[(0, .rd β1 a0.length (a0.flatMap (encI .i64))), (1, .sc (.int .i64 a1))], []⟩) (VC.sub (.c rfl <| .c rfl <| .n _) (.n _)) ?_
  refine AWP.seq ?_
  refine AWP.seq ?_
  refine AWP.region (.cons (.assign (lt1 rfl) (.const _ _ _)) <| ARun.nil _ _ _) ?_
  refine AWP.vc (s' := ⟨[(0, .rd β1 a0.length (a0.flatMap (encI .i64))), (1, .sc (.int .i64 a1)), (5, .sc (.int .i64 (0 : Int)))], []⟩) (VC.sub (.c rfl <| .c rfl <| .c rfl <| .n _) (.n _)) ?_
  refine AWP.joinB' (S := fun p_11 : Unit => ⟨[], []⟩) h (fun p_11 h => ?_) (fun k_12 h => ?_)
  · refine AWP.seq ?_
    refine AWP.region (.cons (.assign (lt1 rfl) (.const _ _ _)) <| ARun.nil _ _ _) ?_
    refine AWP.ret ?_
    obtain rfl := Option.some.inj h
    refine retJ (Res.vc (s' := ⟨[(4, .sc (.bool false))], []⟩) (VC.sub (.c rfl <| .n _) (.n _)) ?_)
    refine Res.drop (H := []) rfl ?_
    exact Res.of rfl (.cons (.tmp rfl) (.nil)) rfl rfl
  · refine AWP.vc (s' := ⟨[(0, .rd β1 a0.length (a0.flatMap (encI .i64))), (1, .sc (.int .i64 a1)), (5, .sc (.int .i64 (0 : Int)))], []⟩) (VC.sub (.c rfl <| .c rfl <| .c rfl <| .n _) (.n _)) ?_
    refine AWP.loopM (S := fun x_7 : Int => ⟨[(0, .rd β1 a0.length (a0.flatMap (encI .i64))), (1, .sc (.int .i64 a1)), (5, .sc (.int .i64 x_7))], []⟩) (x := (0 : Int)) (fun nx_8 x_7 h => ?_) h
    unfold m41_L1 at h
    refine AWP.seq ?_
    refine AWP.seq ?_
    refine AWP.region (.cons (.move (lt1 rfl) (.tmp rfl)) <| .cons (.move (lt1 rfl) (.tmp rfl)) <| .cons (.lenRd (lt1 rfl) (.tmp rfl) Try.underlying26) <| .cons (.lss (lt1 rfl) (.tmp rfl) (.tmp rfl)) <| ARun.nil _ _ _) ?_
    refine AWP.vc (s' := ⟨[(0, .rd β1 a0.length (a0.flatMap (encI .i64))), (1, .sc (.int .i64 a1)), (5, .sc (.int .i64 x_7)), (9, .sc (.bool (decide (x_7 < (a0.length : Int)))))], []⟩) (VC.sub (.c rfl <| .c rfl <| .c rfl <| .c rfl <| .n _) (.n _)) ?_
    refine AWP.cond (.tmp rfl) (fun hc => ?_) (fun hc => ?_)
    · have h := iteT hc h
      refine AWP.skip ?_
      refine AWP.seq ?_
      refine AWP.block ?_
      refine AWP.seq ?_
      obtain ⟨y_9, hy_9, h⟩ := bindS h
      refine AWP.region (.cons (.move (lt1 rfl) (.tmp rfl)) <| .cons (.move (lt1 rfl) (.tmp rfl)) <| .cons (.indexRd (enc := (encI .i64)) (lt1 rfl) (.tmp rfl) (.tmp rfl) Try.underlying26 sz3 (encI_len .i64) rfl hy_9) <| .cons (.loadR (v := .sc (.int .i64 y_9)) (lt1 rfl) (.tmp rfl) one3 rfl) <| .cons (.move (lt1 rfl) (.tmp rfl)) <| .cons (.eql (lt1 rfl) (.tmp rfl) (.tmp rfl)) <| ARun.nil _ _ _) ?_
      refine AWP.vc (s' := ⟨[(0, .rd β1 a0.length (a0.flatMap (encI .i64))), (1, .sc (.int .i64 a1)), (5, .sc (.int .i64 x_7)), (17, .sc (.bool (decide (y_9 = a1))))], []⟩) (VC.sub (.c rfl <| .c rfl <| .c rfl <| .c rfl <| .n _) (.n _)) ?_
      refine AWP.cond (.tmp rfl) (fun hc => ?_) (fun hc => ?_)
      · have h := iteT hc h
        refine AWP.seq ?_
        refine AWP.region (.cons (.assign (lt1 rfl) (.const _ _ _)) <| ARun.nil _ _ _) ?_
        refine AWP.ret ?_
        obtain rfl := Option.some.inj h
        refine retJ (Res.vc (s' := ⟨[(4, .sc (.bool true))], []⟩) (VC.sub (.c rfl <| .n _) (.n _)) ?_)
        refine Res.drop (H := []) rfl ?_
        exact Res.of rfl (.cons (.tmp rfl) (.nil)) rfl rfl
      · have h := iteF hc h
        refine AWP.skip ?_
        obtain ⟨t5_10, ht5_10, h⟩ := letS h
        refine AWP.region (.cons (.move (lt1 rfl) (.tmp rfl)) <| .cons (.add (lt1 rfl) (.tmp rfl) (.const _ _ _)) <| .cons (.assign (lt1 rfl) (.tmp rfl)) <| ARun.nil _ _ _) ?_
        exact endJ t5_10 h (by subst ht5_10; exact VC.sub (.c rfl <| .c rfl <| .c rfl <| .n _) (.n _))
    · have h := iteF hc h
      refine AWP.exit ?_
      exact endJ () h (VC.sub (.n _) (.n _))
theorem c15 {β1 : Bool} {β2 : Bool} (n : Nat) (a0 : (List R38)) (a1 : (List Int)) {r : Bool} (h : m15 n a0 a1 = some r) : Spec Try.prog 15 [] [.rd β1 a0.length (a0.flatMap encR38), .rd β2 a1.length (a1.flatMap (encI .i64))] [] (.sc (.bool r)) [] := by
  refine Spec.of (fn := Try.f15) Try.func15 Try.ntmps15 rfl rfl (le1 rfl) (fun w0 Zs Zb T0 ι0 => ?_)
  unfold m15 at h
  refine AWP.seq ?_
  refine AWP.region (.cons (.assign (lt1 rfl) (.const _ _ _)) <| ARun.nil _ _ _) ?_
  refine AWP.vc (s' := ⟨[(0, .rd β1 a0.length (a0.flatMap encR38)), (1, .rd β2 a1.length (a1.flatMap (encI .i64)))], []⟩) (VC.sub (.c rfl <| .c rfl <| .n _) (.n _)) ?_
  refine AWP.seq ?_
  refine AWP.seq ?_
  refine AWP.region (.cons (.assign (lt1 rfl) (.const _ _ _)) <| ARun.nil _ _ _) ?_
  refine AWP.vc (s' := ⟨[(0, .rd β1 a0.length (a0.flatMap encR38)), (1, .rd β2 a1.length (a1.flatMap (encI .i64))), (5, .sc (.int .i64 (0 : Int)))], []⟩) (VC.sub (.c rfl <| .c rfl <| .c rfl <| .n _) (.n _)) ?_
  refine AWP.joinB' (S := fun p_23 : Unit => ⟨[], []⟩) h (fun p_23 h => ?_) (fun k_24 h => ?_)
  · refine AWP.seq ?_
    refine AWP.region (.cons (.assign (lt1 rfl) (.const _ _ _)) <| ARun.nil _ _ _) ?_
    refine AWP.ret ?_
    obtain rfl := Option.some.inj h
    refine retJ (Res.vc (s' := ⟨[(4, .sc (.bool true))], []⟩) (VC.sub (.c rfl <| .n _) (.n _)) ?_)
    refine Res.drop (H := []) rfl ?_
    exact Res.of rfl (.cons (.tmp rfl) (.nil)) rfl rfl
  · refine AWP.vc (s' := ⟨[(0, .rd β1 a0.length (a0.flatMap encR38)), (1, .rd β2 a1.length (a1.flatMap (encI .i64))), (5, .sc (.int .i64 (0 : Int)))], []⟩) (VC.sub (.c rfl <| .c rfl <| .c rfl <| .n _) (.n _)) ?_
    refine AWP.loopM (S := fun x_15 : Int => ⟨[(0, .rd β1 a0.length (a0.flatMap encR38)), (1, .rd β2 a1.length (a1.flatMap (encI .i64))), (5, .sc (.int .i64 x_15))], []⟩) (x := (0 : Int)) (fun nx_16 x_15 h => ?_) h
    unfold m15_L1 at h
    refine AWP.seq ?_
    refine AWP.seq ?_
    refine AWP.region (.cons (.move (lt1 rfl) (.tmp rfl)) <| .cons (.move (lt1 rfl) (.tmp rfl)) <| .cons (.lenRd (lt1 rfl) (.tmp rfl) Try.underlying26) <| .cons (.lss (lt1 rfl) (.tmp rfl) (.tmp rfl)) <| ARun.nil _ _ _) ?_
    refine AWP.vc (s' := ⟨[(0, .rd β1 a0.length (a0.flatMap encR38)), (1, .rd β2 a1.length (a1.flatMap (encI .i64))), (5, .sc (.int .i64 x_15)), (9, .sc (.bool (decide (x_15 < (a1.length : Int)))))], []⟩) (VC.sub (.c rfl <| .c rfl <| .c rfl <| .c rfl <| .n _) (.n _)) ?_
    refine AWP.cond (.tmp rfl) (fun hc => ?_) (fun hc => ?_)
    · have h := iteT hc h
      refine AWP.skip ?_
      refine AWP.seq ?_
      refine AWP.block ?_
      refine AWP.seq ?_
      obtain ⟨y_17, hy_17, h⟩ := bindS h
      obtain ⟨y_18, hy_18, h⟩ := bindS h
      obtain ⟨s_19, hs_19, h⟩ := bindS h
      obtain ⟨y_20, hy_20, h⟩ := bindS h
      obtain ⟨y_21, hy_21, h⟩ := bindS h
      refine AWP.draw (s' := ⟨[(0, .rd β1 a0.length (a0.flatMap encR38)), (1, .rd β2 a1.length (a1.flatMap (encI .i64))), (5, .sc (.int .i64 x_15)), (35, .sc (.bool (((decide (y_17 < (0 : Int))) || (decide ((a0.length : Int) ≤ y_18))) || y_21)))], []⟩) mixed [⟨0, .rd β1 a0.length (a0.flatMap encR38), none, []⟩, ⟨1, .rd β2 a1.length (a1.flatMap (encI .i64)), none, []⟩, ⟨5, .sc (.int .i64 x_15), none, []⟩, ⟨9, .sc (.bool (decide (x_15 < (a1.length : Int)))), none, []⟩, ⟨12, .rd β2 a1.length (a1.flatMap (encI .i64)), some 0, []⟩, ⟨13, .sc (.int .i64 x_15), some 1, []⟩, ⟨14, .rptr β2 [.sc (.int .i64 y_17)], some 2, []⟩, ⟨15, .sc (.int .i64 y_17), some 3, []⟩, ⟨16, .sc (.bool (decide (y_17 < (0 : Int)))), some 4, []⟩, ⟨17, .sc (.bool (decide (y_17 < (0 : Int)))), some 5, []⟩, ⟨18, .gd (!(decide (y_17 < (0 : Int)))) (.rd β2 a1.length (a1.flatMap (encI .i64))), some 6, []⟩, ⟨19, .gd (!(decide (y_17 < (0 : Int)))) (.sc (.int .i64 x_15)), some 7, []⟩, ⟨20, .gd (!(decide (y_17 < (0 : Int)))) (.rptr β2 [.sc (.int .i64 y_18)]), some 8, []⟩, ⟨21, .gd (!(decide (y_17 < (0 : Int)))) (.sc (.int .i64 y_18)), some 9, []⟩, ⟨22, .gd (!(decide (y_17 < (0 : Int)))) (.rd β1 a0.length (a0.flatMap encR38)), some 10, []⟩, ⟨23, .gd (!(decide (y_17 < (0 : Int)))) (.sc (.int .i64 (a0.length : Int))), some 11, []⟩, ⟨24, .gd (!(decide (y_17 < (0 : Int)))) (.sc (.bool (decide ((a0.length : Int) ≤ y_18)))), some 12, []⟩, ⟨25, .sc (.bool ((decide (y_17 < (0 : Int))) || (decide ((a0.length : Int) ≤ y_18)))), some 13, []⟩, ⟨26, .sc (.bool ((decide (y_17 < (0 : Int))) || (decide ((a0.length : Int) ≤ y_18)))), some 14, []⟩, ⟨27, .gd (!((decide (y_17 < (0 : Int))) || (decide ((a0.length : Int) ≤ y_18)))) (.rd β2 a1.length (a1.flatMap (encI .i64))), some 15, []⟩, ⟨28, .gd (!((decide (y_17 < (0 : Int))) || (decide ((a0.length : Int) ≤ y_18)))) (.sc (.int .i64 x_15)), some 16, []⟩, ⟨29, .gd (!((decide (y_17 < (0 : Int))) || (decide ((a0.length : Int) ≤ y_18)))) (.rd β2 s_19.length (s_19.flatMap (encI .i64))), some 17, []⟩, ⟨30, .gd (!((decide (y_17 < (0 : Int))) || (decide ((a0.length : Int) ≤ y_18)))) (.rd β2 a1.length (a1.flatMap (encI .i64))), some 18, []⟩, ⟨31, .gd (!((decide (y_17 < (0 : Int))) || (decide ((a0.length : Int) ≤ y_18)))) (.sc (.int .i64 x_15)), some 19, []⟩, ⟨32, .gd (!((decide (y_17 < (0 : Int))) || (decide ((a0.length : Int) ≤ y_18)))) (.rptr β2 [.sc (.int .i64 y_20)]), some 20, []⟩, ⟨33, .gd (!((decide (y_17 < (0 : Int))) || (decide ((a0.length : Int) ≤ y_18)))) (.sc (.int .i64 y_20)), some 21, []⟩, ⟨34, .gd (!((decide (y_17 < (0 : Int))) || (decide ((a0.length : Int) ≤ y_18)))) (.sc (.bool y_21)), some 22, []⟩, ⟨35, .sc (.bool (((decide (y_17 < (0 : Int))) || (decide ((a0.length : Int) ≤ y_18))) || y_21)), some 23, []⟩] [⟨[1], 0, 0, some (12, .rd β2 a1.length (a1.flatMap (encI .i64))), []⟩, ⟨[2], 0, 0, some (13, .sc (.int .i64 x_15)), []⟩, ⟨[4, 5], 0, 0, some (14, .rptr β2 [.sc (.int .i64 y_17)]), []⟩, ⟨[6], 0, 0, some (15, .sc (.int .i64 y_17)), []⟩, ⟨[7], 0, 0, some (16, .sc (.bool (decide (y_17 < (0 : Int))))), []⟩, ⟨[8], 0, 0, some (17, .sc (.bool (decide (y_17 < (0 : Int))))), []⟩, ⟨[9, 1], 0, 0, some (18, .gd (!(decide (y_17 < (0 : Int)))) (.rd β2 a1.length (a1.flatMap (encI .i64)))), []⟩, ⟨[9, 2], 0, 0, some (19, .gd (!(decide (y_17 < (0 : Int)))) (.sc (.int .i64 x_15))), []⟩, ⟨[9, 10, 11], 0, 0, some (20, .gd (!(decide (y_17 < (0 : Int)))) (.rptr β2 [.sc (.int .i64 y_18)])), []⟩, ⟨[9, 12], 0, 0, some (21, .gd (!(decide (y_17 < (0 : Int)))) (.sc (.int .i64 y_18))), []⟩, ⟨[9, 0], 0, 0, some (22, .gd (!(decide (y_17 < (0 : Int)))) (.rd β1 a0.length (a0.flatMap encR38))), []⟩, ⟨[9, 14], 0, 0, some (23, .gd (!(decide (y_17 < (0 : Int)))) (.sc (.int .i64 (a0.length : Int)))), []⟩, ⟨[9, 13, 15], 0, 0, some (24, .gd (!(decide (y_17 < (0 : Int)))) (.sc (.bool (decide ((a0.length : Int) ≤ y_18))))), []⟩, ⟨[9, 16], 0, 0, some (25, .sc (.bool ((decide (y_17 < (0 : Int))) || (decide ((a0.length : Int) ≤ y_18))))), []⟩, ⟨[17], 0, 0, some (26, .sc (.bool ((decide (y_17 < (0 : Int))) || (decide ((a0.length : Int) ≤ y_18))))), []⟩, ⟨[18, 1], 0, 0, some (27, .gd (!((decide (y_17 < (0 : Int))) || (decide ((a0.length : Int) ≤ y_18)))) (.rd β2 a1.length (a1.flatMap (encI .i64)))), []⟩, ⟨[18, 2], 0, 0, some (28, .gd (!((decide (y_17 < (0 : Int))) || (decide ((a0.length : Int) ≤ y_18)))) (.sc (.int .i64 x_15))), []⟩, ⟨[18, 19, 20], 0, 0, some (29, .gd (!((decide (y_17 < (0 : Int))) || (decide ((a0.length : Int) ≤ y_18)))) (.rd β2 s_19.length (s_19.flatMap (encI .i64)))), []⟩, ⟨[18, 1], 0, 0, some (30, .gd (!((decide (y_17 < (0 : Int))) || (decide ((a0.length : Int) ≤ y_18)))) (.rd β2 a1.length (a1.flatMap (encI .i64)))), []⟩, ⟨[18, 2], 0, 0, some (31, .gd (!((decide (y_17 < (0 : Int))) || (decide ((a0.length : Int) ≤ y_18)))) (.sc (.int .i64 x_15))), []⟩, ⟨[18, 22, 23], 0, 0, some (32, .gd (!((decide (y_17 < (0 : Int))) || (decide ((a0.length : Int) ≤ y_18)))) (.rptr β2 [.sc (.int .i64 y_20)])), []⟩, ⟨[18, 24], 0, 0, some (33, .gd (!((decide (y_17 < (0 : Int))) || (decide ((a0.length : Int) ≤ y_18)))) (.sc (.int .i64 y_20))), []⟩, ⟨[18, 21, 25], 0, 0, some (34, .gd (!((decide (y_17 < (0 : Int))) || (decide ((a0.length : Int) ≤ y_18)))) (.sc (.bool y_21))), []⟩, ⟨[18, 26], 0, 0, some (35, .sc (.bool (((decide (y_17 < (0 : Int))) || (decide ((a0.length : Int) ≤ y_18))) || y_21))), []⟩] [] [[]] [[], [], [0, 1], [0, 1, 2], [0, 1, 2, 3], [0, 1, 2, 3, 4], [0, 1, 2, 3, 4, 5], [0, 1, 2, 3, 4, 5], [0, 1, 2, 3, 4, 5, 6, 7], [0, 1, 2, 3, 4, 5, 6, 7, 8], [0, 1, 2, 3, 4, 5], [0, 1, 2, 3, 4, 5, 10], [0, 1, 2, 3, 4, 5, 6, 7, 8, 9, 10, 11], [0, 1, 2, 3, 4, 5, 6, 7, 8, 9, 10, 11, 12], [0, 1, 2, 3, 4, 5, 6, 7, 8, 9, 10, 11, 12, 13], [0, 1, 2, 3, 4, 5, 6, 7, 8, 9, 10, 11, 12, 13, 14], [0, 1, 2, 3, 4, 5, 6, 7, 8, 9, 10, 11, 12, 13, 14], [0, 1, 2, 3, 4, 5, 6, 7, 8, 9, 10, 11, 12, 13, 14, 15, 16], [0, 1, 2, 3, 4, 5, 6, 7, 8, 9, 10, 11, 12, 13, 14], [0, 1, 2, 3, 4, 5, 6, 7, 8, 9, 10, 11, 12, 13, 14], [0, 1, 2, 3, 4, 5, 6, 7, 8, 9, 10, 11, 12, 13, 14, 18, 19], [0, 1, 2, 3, 4, 5, 6, 7, 8, 9, 10, 11, 12, 13, 14, 18, 19, 20], [0, 1, 2, 3, 4, 5, 6, 7, 8, 9, 10, 11, 12, 13, 14, 15, 16, 17, 18, 19, 20, 21], [0, 1, 2, 3, 4, 5, 6, 7, 8, 9, 10, 11, 12, 13, 14, 15, 16, 17, 18, 19, 20, 21, 22]] (by kernel_rfl) (by kernel_rfl) (BornL.ok (.o <| .o <| .o <| .o <| .b rfl rfl <| .b rfl rfl <| .b rfl rfl <| .b rfl rfl <| .b rfl rfl <| .b rfl rfl <| .b rfl rfl <| .b rfl rfl <| .b rfl rfl <| .b rfl rfl <| .b rfl rfl <| .b rfl rfl <| .b rfl rfl <| .b rfl rfl <| .b rfl rfl <| .b rfl rfl <| .b rfl rfl <| .b rfl rfl <| .b rfl rfl <| .b rfl rfl <| .b rfl rfl <| .b rfl rfl <| .b rfl rfl <| .b rfl rfl <| .n)) (BaseL.ok (.o rfl <| .o rfl <| .o rfl <| .o rfl <| .b <| .b <| .b <| .b <| .b <| .b <| .b <| .b <| .b <| .b <| .b <| .b <| .b <| .b <| .b <| .b <| .b <| .b <| .b <| .b <| .b <| .b <| .b <| .b <| .n)) rfl (by decide) (allLt rfl) (.pure rfl (fun H => .put (fun E hE => .move (lt1 rfl) (.tmp (hE.at (k := 0) rfl)))) <| .pure rfl (fun H => .put (fun E hE => .move (lt1 rfl) (.tmp (hE.at (k := 0) rfl)))) <| .pure rfl (fun H => .put (fun E hE => .indexRd (enc := (encI .i64)) (lt1 rfl) (.tmp (hE.at (k := 0) rfl)) (.tmp (hE.at (k := 1) rfl)) Try.underlying26 sz3 (encI_len .i64) rfl hy_17)) <| .pure rfl (fun H => .put (fun E hE => .loadR (v := .sc (.int .i64 y_17)) (lt1 rfl) (.tmp (hE.at (k := 0) rfl)) one3 rfl)) <| .pure rfl (fun H => .put (fun E hE => .lss (lt1 rfl) (.tmp (hE.at (k := 0) rfl)) (.const _ _ _))) <| .pure rfl (fun H => .put (fun E hE => .move (lt1 rfl) (.tmp (hE.at (k := 0) rfl)))) <| .pure rfl (fun H => .gput (b := (decide (y_17 < (0 : Int)))) (want := false) (j := 5) (dj := 17) rfl (lt1 rfl) (lt1 rfl) (fun E hE => hE.at (k := 0) rfl) (fun hg E hE => .move (lt1 rfl) (.tmp (hE.at (k := 1) rfl)))) <| .pure rfl (fun H => .gput (b := (decide (y_17 < (0 : Int)))) (want := false) (j := 5) (dj := 17) rfl (lt1 rfl) (lt1 rfl) (fun E hE => hE.at (k := 0) rfl) (fun hg E hE => .move (lt1 rfl) (.tmp (hE.at (k := 1) rfl)))) <| .pure rfl (fun H => .gput (b := (decide (y_17 < (0 : Int)))) (want := false) (j := 5) (dj := 17) rfl (lt1 rfl) (lt1 rfl) (fun E hE => hE.at (k := 0) rfl) (fun hg E hE => .indexRd (enc := (encI .i64)) (lt1 rfl) (.gd hg (.tmp (hE.at (k := 1) rfl))) (.gd hg (.tmp (hE.at (k := 2) rfl))) Try.underlying26 sz3 (encI_len .i64) rfl (gdB hy_18 hg))) <| .pure rfl (fun H => .gput (b := (decide (y_17 < (0 : Int)))) (want := false) (j := 5) (dj := 17) rfl (lt1 rfl) (lt1 rfl) (fun E hE => hE.at (k := 0) rfl) (fun hg E hE => .loadR (v := .sc (.int .i64 y_18)) (lt1 rfl) (.gd hg (.tmp (hE.at (k := 1) rfl))) one3 rfl)) <| .pure rfl (fun H => .gput (b := (decide (y_17 < (0 : Int)))) (want := false) (j := 5) (dj := 17) rfl (lt1 rfl) (lt1 rfl) (fun E hE => hE.at (k := 0) rfl) (fun hg E hE => .move (lt1 rfl) (.tmp (hE.at (k := 1) rfl)))) <| .pure rfl (fun H => .gput (b := (decide (y_17 < (0 : Int)))) (want := false) (j := 5) (dj := 17) rfl (lt1 rfl) (lt1 rfl) (fun E hE => hE.at (k := 0) rfl) (fun hg E hE => .lenRd (lt1 rfl) (.gd hg (.tmp (hE.at (k := 1) rfl))) Try.underlying22)) <| .pure rfl (fun H => .gput (b := (decide (y_17 < (0 : Int)))) (want := false) (j := 5) (dj := 17) rfl (lt1 rfl) (lt1 rfl) (fun E hE => hE.at (k := 0) rfl) (fun hg E hE => .geq (lt1 rfl) (.gd hg (.tmp (hE.at (k := 1) rfl))) (.gd hg (.tmp (hE.at (k := 2) rfl))))) <| .pure rfl (fun H => .put (fun E hE => .pickOr (lt1 rfl) (.tmp (hE.at (k := 0) rfl)) (.const _ _ _) (.tmp (hE.at (k := 1) rfl)))) <| .pure rfl (fun H => .put (fun E hE => .move (lt1 rfl) (.tmp (hE.at (k := 0) rfl)))) <| .pure rfl (fun H => .gput (b := ((decide (y_17 < (0 : Int))) || (decide ((a0.length : Int) ≤ y_18)))) (want := false) (j := 14) (dj := 26) rfl (lt1 rfl) (lt1 rfl) (fun E hE => hE.at (k := 0) rfl) (fun hg E hE => .move (lt1 rfl) (.tmp (hE.at (k := 1) rfl)))) <| .pure rfl (fun H => .gput (b := ((decide (y_17 < (0 : Int))) || (decide ((a0.length : Int) ≤ y_18)))) (want := false) (j := 14) (dj := 26) rfl (lt1 rfl) (lt1 rfl) (fun E hE => hE.at (k := 0) rfl) (fun hg E hE => .move (lt1 rfl) (.tmp (hE.at (k := 1) rfl)))) <| .pure rfl (fun H => .gput (b := ((decide (y_17 < (0 : Int))) || (decide ((a0.length : Int) ≤ y_18)))) (want := false) (j := 14) (dj := 26) rfl (lt1 rfl) (lt1 rfl) (fun E hE => hE.at (k := 0) rfl) (fun hg E hE => .slRd (enc := (encI .i64)) (lt1 rfl) (.gd hg (.tmp (hE.at (k := 1) rfl))) Try.underlying26 sz3 (encI_len .i64) rfl (.none _ _ _) (.some (.gd hg (.tmp (hE.at (k := 2) rfl)))) (gdB hs_19 hg))) <| .pure rfl (fun H => .gput (b := ((decide (y_17 < (0 : Int))) || (decide ((a0.length : Int) ≤ y_18)))) (want := false) (j := 14) (dj := 26) rfl (lt1 rfl) (lt1 rfl) (fun E hE => hE.at (k := 0) rfl) (fun hg E hE => .move (lt1 rfl) (.tmp (hE.at (k := 1) rfl)))) <| .pure rfl (fun H => .gput (b := ((decide (y_17 < (0 : Int))) || (decide ((a0.length : Int) ≤ y_18)))) (want := false) (j := 14) (dj := 26) rfl (lt1 rfl) (lt1 rfl) (fun E hE => hE.at (k := 0) rfl) (fun hg E hE => .move (lt1 rfl) (.tmp (hE.at (k := 1) rfl)))) <| .pure rfl (fun H => .gput (b := ((decide (y_17 < (0 : Int))) || (decide ((a0.length : Int) ≤ y_18)))) (want := false) (j := 14) (dj := 26) rfl (lt1 rfl) (lt1 rfl) (fun E hE => hE.at (k := 0) rfl) (fun hg E hE => .indexRd (enc := (encI .i64)) (lt1 rfl) (.gd hg (.tmp (hE.at (k := 1) rfl))) (.gd hg (.tmp (hE.at (k := 2) rfl))) Try.underlying26 sz3 (encI_len .i64) rfl (gdB hy_20 hg))) <| .pure rfl (fun H => .gput (b := ((decide (y_17 < (0 : Int))) || (decide ((a0.length : Int) ≤ y_18)))) (want := false) (j := 14) (dj := 26) rfl (lt1 rfl) (lt1 rfl) (fun E hE => hE.at (k := 0) rfl) (fun hg E hE => .loadR (v := .sc (.int .i64 y_20)) (lt1 rfl) (.gd hg (.tmp (hE.at (k := 1) rfl))) one3 rfl)) <| .pure rfl (fun H => .gput (b := ((decide (y_17 < (0 : Int))) || (decide ((a0.length : Int) ≤ y_18)))) (want := false) (j := 14) (dj := 26) rfl (lt1 rfl) (lt1 rfl) (fun E hE => hE.at (k := 0) rfl) (fun hg E hE => .call0 (bw := false) (lt1 rfl) (c41 (β1 := β2) n s_19 y_20 (gdB hy_21 hg)) (.cons (.gd hg (.tmp (hE.at (k := 1) rfl))) (.ren rfl) (.cons (.gd hg (.tmp (hE.at (k := 2) rfl))) (.ren rfl) (.nil))) rfl)) <| .pure rfl (fun H => .put (fun E hE => .pickOr (lt1 rfl) (.tmp (hE.at (k := 0) rfl)) (.const _ _ _) (.tmp (hE.at (k := 1) rfl)))) <| .nil _) (fun E hE => .c (DInv.at hE (k := 0) rfl rfl rfl) <| .c (DInv.at hE (k := 1) rfl rfl rfl) <| .c (DInv.at hE (k := 2) rfl rfl rfl) <| .c (DInv.at hE (k := 27) rfl rfl rfl) <| .n _) rfl ?_
      refine AWP.vc (s' := ⟨[(0, .rd β1 a0.length (a0.flatMap encR38)), (1, .rd β2 a1.length (a1.flatMap (encI .i64))), (5, .sc (.int .i64 x_15)), (35, .sc (.bool (((decide (y_17 < (0 : Int))) || (decide ((a0.length : Int) ≤ y_18))) || y_21)))], []⟩) (VC.sub (.c rfl <| .c rfl <| .c rfl <| .c rfl <| .n _) (.n _)) ?_
      refine AWP.cond (.tmp rfl) (fun hc => ?_) (fun hc => ?_)
      · have h := iteT hc h
        refine AWP.seq ?_
        refine AWP.region (.cons (.assign (lt1 rfl) (.const _ _ _)) <| ARun.nil _ _ _) ?_
        refine AWP.ret ?_
        obtain rfl := Option.some.inj h
        refine retJ (Res.vc (s' := ⟨[(4, .sc (.bool false))], []⟩) (VC.sub (.c rfl <| .n _) (.n _)) ?_)
        refine Res.drop (H := []) rfl ?_
        exact Res.of rfl (.cons (.tmp rfl) (.nil)) rfl rfl
      · have h := iteF hc h
        refine AWP.skip ?_
        obtain ⟨t5_22, ht5_22, h⟩ := letS h
        refine AWP.region (.cons (.move (lt1 rfl) (.tmp rfl)) <| .cons (.add (lt1 rfl) (.tmp rfl) (.const _ _ _)) <| .cons (.assign (lt1 rfl) (.tmp rfl)) <| ARun.nil _ _ _) ?_
        exact endJ t5_22 h (by subst ht5_22; exact VC.sub (.c rfl <| .c rfl <| .c rfl <| .n _) (.n _))
    · have h := iteF hc h
      refine AWP.exit ?_
      exact endJ () h (VC.sub (.n _) (.n _))
theorem c23 {β1 : Bool} {β2 : Bool} (n : Nat) (a0 : (List R38)) (a1 : (List Int)) {r : ((List Int) × Int)} (h : m23 n a0 a1 = some r) : Spec Try.prog 23 [] [.rd β1 a0.length (a0.flatMap encR38), .rd β2 a1.length (a1.flatMap (encI .i64))] [] (.tup [.rd false r.1.length (r.1.flatMap (encI .i64)), .sc (.int .i64 r.2)]) [] := by
  refine Spec.of (fn := Try.f23) Try.func23 Try.ntmps23 rfl rfl (le1 rfl) (fun w0 Zs Zb T0 ι0 => ?_)
  unfold m23 at h
  refine AWP.seq ?_
  refine AWP.region (.cons (.assign (lt1 rfl) (.const _ _ _)) <| .cons (.assign (lt1 rfl) (.const _ _ _)) <| ARun.nil _ _ _) ?_
  refine AWP.vc (s' := ⟨[(0, .rd β1 a0.length (a0.flatMap encR38)), (1, .rd β2 a1.length (a1.flatMap (encI .i64)))], []⟩) (VC.sub (.c rfl <| .c rfl <| .n _) (.n _)) ?_
  refine AWP.seq ?_
  refine AWP.block ?_
  refine AWP.seq ?_
  obtain ⟨y_1, hy_1, h⟩ := bindS h
  refine AWP.region (.cons (.move (lt1 rfl) (.tmp rfl)) <| .cons (.call0 (bw := false) (lt1 rfl) (c14 (β1 := β1) n a0 hy_1) (.cons (.tmp rfl) (.ren rfl) (.nil)) rfl) <| .cons (.not (lt1 rfl) (.tmp rfl)) <| .cons (.assign (lt1 rfl) (.tmp rfl)) <| ARun.nil _ _ _) ?_
  refine AWP.vc (s' := ⟨[(0, .rd β1 a0.length (a0.flatMap encR38)), (1, .rd β2 a1.length (a1.flatMap (encI .i64))), (9, .sc (.bool (!y_1)))], []⟩) (VC.sub (.c rfl <| .c rfl <| .c rfl <| .n _) (.n _)) ?_
  refine AWP.cond (.tmp rfl) (fun hc => ?_) (fun hc => ?_)
  · have h := iteT hc h
    refine AWP.seq ?_
    refine AWP.region (.cons (.assign (lt1 rfl) (.const _ _ _)) <| .cons (.assign (lt1 rfl) (.const _ _ _)) <| ARun.nil _ _ _) ?_
    refine AWP.ret ?_
    obtain rfl := Option.some.inj h
    refine retJ (Res.vc (s' := ⟨[(4, .rd false ([] : List Int).length (([] : List Int).flatMap (encI .i64))), (5, .sc (.int .i64 (1 : Int)))], []⟩) (VC.trans (VC.nilRd (d := 4) false rfl) (VC.sub (.c rfl <| .c rfl <| .n _) (.n _))) ?_)
    refine Res.drop (H := []) rfl ?_
    exact Res.of rfl (.cons (.tmp rfl) (.cons (.tmp rfl) (.nil))) rfl rfl
  · have h := iteF hc h
    refine AWP.seq ?_
    obtain ⟨y_2, hy_2, h⟩ := bindS h
    refine AWP.region (.cons (.move (lt1 rfl) (.tmp rfl)) <| .cons (.move (lt1 rfl) (.tmp rfl)) <| .cons (.call0 (bw := false) (lt1 rfl) (c15 (β1 := β1) (β2 := β2) n a0 a1 hy_2) (.cons (.tmp rfl) (.ren rfl) (.cons (.tmp rfl) (.ren rfl) (.nil))) rfl) <| .cons (.not (lt1 rfl) (.tmp rfl)) <| .cons (.assign (lt1 rfl) (.tmp rfl)) <| ARun.nil _ _ _) ?_
    refine AWP.vc (s' := ⟨[(0, .rd β1 a0.length (a0.flatMap encR38)), (1, .rd β2 a1.length (a1.flatMap (encI .i64))), (13, .sc (.bool (!y_2)))], []⟩) (VC.sub (.c rfl <| .c rfl <| .c rfl <| .n _) (.n _)) ?_
    refine AWP.cond (.tmp rfl) (fun hc => ?_) (fun hc => ?_)
    · have h := iteT hc h
      refine AWP.seq ?_
      refine AWP.region (.cons (.assign (lt1 rfl) (.const _ _ _)) <| .cons (.assign (lt1 rfl) (.const _ _ _)) <| ARun.nil _ _ _) ?_
      refine AWP.ret ?_
      obtain rfl := Option.some.inj h
      refine retJ (Res.vc (s' := ⟨[(4, .rd false ([] : List Int).length (([] : List Int).flatMap (encI .i64))), (5, .sc (.int .i64 (22 : Int)))], []⟩) (VC.trans (VC.nilRd (d := 4) false rfl) (VC.sub (.c rfl <| .c rfl <| .n _) (.n _))) ?_)
      refine Res.drop (H := []) rfl ?_
      exact Res.of rfl (.cons (.tmp rfl) (.cons (.tmp rfl) (.nil))) rfl rfl
    · have h := iteF hc h
      refine AWP.skip ?_
      refine AWP.seq ?_
      refine AWP.region (.cons (.assign (lt1 rfl) (.const _ _ _)) <| ARun.nil _ _ _) ?_
      refine AWP.vc (s' := ⟨[(0, .rd β1 a0.length (a0.flatMap encR38)), (1, .rd β2 a1.length (a1.flatMap (encI .i64))), (6, .sc (.slice none 0 0))], []⟩) (VC.sub (.c rfl <| .c rfl <| .c rfl <| .n _) (.n _)) ?_
      refine AWP.seq ?_
      refine AWP.region (.cons (.assign (lt1 rfl) (.const _ _ _)) <| ARun.nil _ _ _) ?_
      refine AWP.vc (s' := ⟨[(0, .rd β1 a0.length (a0.flatMap encR38)), (1, .rd β2 a1.length (a1.flatMap (encI .i64))), (6, .sc (.slice none 0 0)), (7, .sc (.int .i64 (0 : Int)))], []⟩) (VC.sub (.c rfl <| .c rfl <| .c rfl <| .c rfl <| .n _) (.n _)) ?_
      refine AWP.seq ?_
      refine AWP.seq ?_
      refine AWP.region (.cons (.assign (lt1 rfl) (.const _ _ _)) <| ARun.nil _ _ _) ?_
      refine AWP.vc (s' := ⟨[(0, .rd β1 a0.length (a0.flatMap encR38)), (1, .rd β2 a1.length (a1.flatMap (encI .i64))), (6, .sc (.slice none 0 0)), (7, .sc (.int .i64 (0 : Int))), (8, .sc (.int .i64 (0 : Int)))], []⟩) (VC.sub (.c rfl <| .c rfl <| .c rfl <| .c rfl <| .c rfl <| .n _) (.n _)) ?_
      refine AWP.joinB' (S := fun p_28 : (List Int) => ⟨[(6, .own 1 1 0 p_28.length)], [(1, ⟨3, true, p_28.flatMap (encI .i64)⟩)]⟩) h (fun p_28 h => ?_) (fun k_29 h => ?_)
      · refine AWP.seq ?_
        refine AWP.region (.cons (.move (lt1 rfl) (.tmp rfl)) <| .cons (.assign (lt1 rfl) (.tmp rfl)) <| .cons (.assign (lt1 rfl) (.const _ _ _)) <| ARun.nil _ _ _) ?_
        refine AWP.ret ?_
        obtain rfl := Option.some.inj h
        refine retJ (Res.vc (s' := ⟨[(4, .rd false p_28.length (p_28.flatMap (encI .i64))), (5, .sc (.int .i64 (0 : Int)))], []⟩) (VC.trans (VC.frz (d := 4) (t := 1) rfl rfl (encI_len .i64)) (VC.sub (.c rfl <| .c rfl <| .n _) (.n _))) ?_)
        refine Res.drop (H := []) rfl ?_
        exact Res.of rfl (.cons (.tmp rfl) (.cons (.tmp rfl) (.nil))) rfl rfl
      · refine AWP.vc (VC.nilOwn (d := 6) (t := 1) (sz := 1) (E := 3) rfl (nm rfl)) ?_
        refine AWP.vc (s' := ⟨[(0, .rd β1 a0.length (a0.flatMap encR38)), (1, .rd β2 a1.length (a1.flatMap (encI .i64))), (6, .own 1 1 0 ([] : List Int).length), (7, .sc (.int .i64 (0 : Int))), (8, .sc (.int .i64 (0 : Int)))], [(1, ⟨3, true, ([] : List Int).flatMap (encI .i64)⟩)]⟩) (VC.sub (.c rfl <| .c rfl <| .c rfl <| .c rfl <| .c rfl <| .n _) (.c rfl <| .n _)) ?_
        refine AWP.loopM (S := fun x_19 : Int × Int × (List Int) => ⟨[(0, .rd β1 a0.length (a0.flatMap encR38)), (1, .rd β2 a1.length (a1.flatMap (encI .i64))), (6, .own 1 1 0 x_19.2.2.length), (7, .sc (.int .i64 x_19.1)), (8, .sc (.int .i64 x_19.2.1))], [(1, ⟨3, true, x_19.2.2.flatMap (encI .i64)⟩)]⟩) (x := ((0 : Int), (0 : Int), ([] : List Int))) (fun nx_20 x_19 h => ?_) h
        unfold m23_L1 at h
        refine AWP.seq ?_
        refine AWP.seq ?_
        refine AWP.region (.cons (.move (lt1 rfl) (.tmp rfl)) <| .cons (.move (lt1 rfl) (.tmp rfl)) <| .cons (.lenRd (lt1 rfl) (.tmp rfl) Try.underlying26) <| .cons (.lss (lt1 rfl) (.tmp rfl) (.tmp rfl)) <| ARun.nil _ _ _) ?_
        refine AWP.vc (s' := ⟨[(0, .rd β1 a0.length (a0.flatMap encR38)), (1, .rd β2 a1.length (a1.flatMap (encI .i64))), (6, .own 1 1 0 x_19.2.2.length), (7, .sc (.int .i64 x_19.1)), (8, .sc (.int .i64 x_19.2.1)), (21, .sc (.bool (decide (x_19.2.1 < (a1.length : Int)))))], [(1, ⟨3, true, x_19.2.2.flatMap (encI .i64)⟩)]⟩) (VC.sub (.c rfl <| .c rfl <| .c rfl <| .c rfl <| .c rfl <| .c rfl <| .n _) (.c rfl <| .n _)) ?_
        refine AWP.cond (.tmp rfl) (fun hc => ?_) (fun hc => ?_)
        · have h := iteT hc h
          refine AWP.skip ?_
          refine AWP.seq ?_
          refine AWP.block ?_
          refine AWP.seq ?_
          obtain ⟨y_21, hy_21, h⟩ := bindS h
          obtain ⟨y_22, hy_22, h⟩ := bindS h
          obtain ⟨y_23, hy_23, h⟩ := bindS h
          obtain ⟨y_24, hy_24, h⟩ := bindS h
          obtain ⟨t7_25, ht7_25, h⟩ := letS h
          refine AWP.draw (s' := ⟨[(0, .rd β1 a0.length (a0.flatMap encR38)), (1, .rd β2 a1.length (a1.flatMap (encI .i64))), (6, .own 1 1 0 x_19.2.2.length), (7, .sc (.int .i64 (IntKind.wrap .i64 ((if y_22.Release > x_19.1 then y_22.Release else x_19.1) + y_24.Length)))), (8, .sc (.int .i64 x_19.2.1))], [(1, ⟨3, true, x_19.2.2.flatMap (encI .i64)⟩)]⟩) mixed [⟨0, .rd β1 a0.length (a0.flatMap encR38), none, []⟩, ⟨1, .rd β2 a1.length (a1.flatMap (encI .i64)), none, []⟩, ⟨6, .own 1 1 0 x_19.2.2.length, none, []⟩, ⟨7, .sc (.int .i64 x_19.1), none, [19]⟩, ⟨8, .sc (.int .i64 x_19.2.1), none, []⟩, ⟨21, .sc (.bool (decide (x_19.2.1 < (a1.length : Int)))), none, []⟩, ⟨24, .sc (.int .i64 x_19.1), some 0, []⟩, ⟨25, .rd β1 a0.length (a0.flatMap encR38), some 1, []⟩, ⟨26, .rd β2 a1.length (a1.flatMap (encI .i64)), some 2, []⟩, ⟨27, .sc (.int .i64 x_19.2.1), some 3, []⟩, ⟨28, .rptr β2 [.sc (.int .i64 y_21)], some 4, []⟩, ⟨29, .sc (.int .i64 y_21), some 5, []⟩, ⟨30, .rptr β1 [.sc (.int .i64 y_22.Release), .sc (.int .i64 y_22.Length), .sc (.int .i64 y_22.Due)], some 6, []⟩, ⟨31, .rptr β1 [.sc (.int .i64 y_22.Release), .sc (.int .i64 y_22.Length), .sc (.int .i64 y_22.Due)], some 7, []⟩, ⟨32, .sc (.int .i64 y_22.Release), some 8, []⟩, ⟨33, .sc (.int .i64 (if y_22.Release > x_19.1 then y_22.Release else x_19.1)), some 9, []⟩, ⟨34, .rd β1 a0.length (a0.flatMap encR38), some 10, []⟩, ⟨35, .rd β2 a1.length (a1.flatMap (encI .i64)), some 11, []⟩, ⟨36, .sc (.int .i64 x_19.2.1), some 12, []⟩, ⟨37, .rptr β2 [.sc (.int .i64 y_23)], some 13, []⟩, ⟨38, .sc (.int .i64 y_23), some 14, []⟩, ⟨39, .rptr β1 [.sc (.int .i64 y_24.Release), .sc (.int .i64 y_24.Length), .sc (.int .i64 y_24.Due)], some 15, []⟩, ⟨40, .rptr β1 [.sc (.int .i64 y_24.Length), .sc (.int .i64 y_24.Due)], some 16, []⟩, ⟨41, .sc (.int .i64 y_24.Length), some 17, []⟩, ⟨42, .sc (.int .i64 (IntKind.wrap .i64 ((if y_22.Release > x_19.1 then y_22.Release else x_19.1) + y_24.Length))), some 18, []⟩, ⟨7, .sc (.int .i64 (IntKind.wrap .i64 ((if y_22.Release > x_19.1 then y_22.Release else x_19.1) + y_24.Length))), some 19, []⟩] [⟨[3], 0, 0, some (24, .sc (.int .i64 x_19.1)), []⟩, ⟨[0], 0, 0, some (25, .rd β1 a0.length (a0.flatMap encR38)), []⟩, ⟨[1], 0, 0, some (26, .rd β2 a1.length (a1.flatMap (encI .i64))), []⟩, ⟨[4], 0, 0, some (27, .sc (.int .i64 x_19.2.1)), []⟩, ⟨[8, 9], 0, 0, some (28, .rptr β2 [.sc (.int .i64 y_21)]), []⟩, ⟨[10], 0, 0, some (29, .sc (.int .i64 y_21)), []⟩, ⟨[7, 11], 0, 0, some (30, .rptr β1 [.sc (.int .i64 y_22.Release), .sc (.int .i64 y_22.Length), .sc (.int .i64 y_22.Due)]), []⟩, ⟨[12], 0, 0, some (31, .rptr β1 [.sc (.int .i64 y_22.Release), .sc (.int .i64 y_22.Length), .sc (.int .i64 y_22.Due)]), []⟩, ⟨[13], 0, 0, some (32, .sc (.int .i64 y_22.Release)), []⟩, ⟨[6, 14], 0, 0, some (33, .sc (.int .i64 (if y_22.Release > x_19.1 then y_22.Release else x_19.1))), []⟩, ⟨[0], 0, 0, some (34, .rd β1 a0.length (a0.flatMap encR38)), []⟩, ⟨[1], 0, 0, some (35, .rd β2 a1.length (a1.flatMap (encI .i64))), []⟩, ⟨[4], 0, 0, some (36, .sc (.int .i64 x_19.2.1)), []⟩, ⟨[17, 18], 0, 0, some (37, .rptr β2 [.sc (.int .i64 y_23)]), []⟩, ⟨[19], 0, 0, some (38, .sc (.int .i64 y_23)), []⟩, ⟨[16, 20], 0, 0, some (39, .rptr β1 [.sc (.int .i64 y_24.Release), .sc (.int .i64 y_24.Length), .sc (.int .i64 y_24.Due)]), []⟩, ⟨[21], 0, 0, some (40, .rptr β1 [.sc (.int .i64 y_24.Length), .sc (.int .i64 y_24.Due)]), []⟩, ⟨[22], 0, 0, some (41, .sc (.int .i64 y_24.Length)), []⟩, ⟨[15, 23], 0, 0, some (42, .sc (.int .i64 (IntKind.wrap .i64 ((if y_22.Release > x_19.1 then y_22.Release else x_19.1) + y_24.Length)))), []⟩, ⟨[24], 0, 0, some (7, .sc (.int .i64 (IntKind.wrap .i64 ((if y_22.Release > x_19.1 then y_22.Release else x_19.1) + y_24.Length)))), []⟩] [] [[(1, ⟨3, true, x_19.2.2.flatMap (encI .i64)⟩)]] [[], [], [], [], [2, 3], [2, 3, 4], [1, 2, 3, 4, 5], [1, 2, 3, 4, 5, 6], [1, 2, 3, 4, 5, 6, 7], [0, 1, 2, 3, 4, 5, 6, 7, 8], [], [], [], [11, 12], [11, 12, 13], [10, 11, 12, 13, 14], [10, 11, 12, 13, 14, 15], [10, 11, 12, 13, 14, 15, 16], [0, 1, 2, 3, 4, 5, 6, 7, 8, 9, 10, 11, 12, 13, 14, 15, 16, 17], [0, 1, 2, 3, 4, 5, 6, 7, 8, 9, 10, 11, 12, 13, 14, 15, 16, 17, 18]] (by kernel_rfl) (by kernel_rfl) (BornL.ok (.o <| .o <| .o <| .o <| .o <| .o <| .b rfl rfl <| .b rfl rfl <| .b rfl rfl <| .b rfl rfl <| .b rfl rfl <| .b rfl rfl <| .b rfl rfl <| .b rfl rfl <| .b rfl rfl <| .b rfl rfl <| .b rfl rfl <| .b rfl rfl <| .b rfl rfl <| .b rfl rfl <| .b rfl rfl <| .b rfl rfl <| .b rfl rfl <| .b rfl rfl <| .b rfl rfl <| .b rfl rfl <| .n)) (BaseL.ok (.o rfl <| .o rfl <| .o rfl <| .o rfl <| .o rfl <| .o rfl <| .b <| .b <| .b <| .b <| .b <| .b <| .b <| .b <| .b <| .b <| .b <| .b <| .b <| .b <| .b <| .b <| .b <| .b <| .b <| .b <| .n)) rfl (by decide) (allLt rfl) (.pure rfl (fun H => .put (fun E hE => .move (lt1 rfl) (.tmp (hE.at (k := 0) rfl)))) <| .pure rfl (fun H => .put (fun E hE => .move (lt1 rfl) (.tmp (hE.at (k := 0) rfl)))) <| .pure rfl (fun H => .put (fun E hE => .move (lt1 rfl) (.tmp (hE.at (k := 0) rfl)))) <| .pure rfl (fun H => .put (fun E hE => .move (lt1 rfl) (.tmp (hE.at (k := 0) rfl)))) <| .pure rfl (fun H => .put (fun E hE => .indexRd (enc := (encI .i64)) (lt1 rfl) (.tmp (hE.at (k := 0) rfl)) (.tmp (hE.at (k := 1) rfl)) Try.underlying26 sz3 (encI_len .i64) rfl hy_21)) <| .pure rfl (fun H => .put (fun E hE => .loadR (v := .sc (.int .i64 y_21)) (lt1 rfl) (.tmp (hE.at (k := 0) rfl)) one3 rfl)) <| .pure rfl (fun H => .put (fun E hE => .indexRd (enc := encR38) (lt1 rfl) (.tmp (hE.at (k := 0) rfl)) (.tmp (hE.at (k := 1) rfl)) Try.underlying22 sz39 encR38_len rfl hy_22)) <| .pure rfl (fun H => .put (fun E hE => .fieldR (lt1 rfl) (.tmp (hE.at (k := 0) rfl)) fld39_0 rfl)) <| .pure rfl (fun H => .put (fun E hE => .loadR (v := .sc (.int .i64 y_22.Release)) (lt1 rfl) (.tmp (hE.at (k := 0) rfl)) one3 rfl)) <| .pure rfl (fun H => .put (fun E hE => .max2 (lt1 rfl) (.tmp (hE.at (k := 0) rfl)) (.tmp (hE.at (k := 1) rfl)))) <| .pure rfl (fun H => .put (fun E hE => .move (lt1 rfl) (.tmp (hE.at (k := 0) rfl)))) <| .pure rfl (fun H => .put (fun E hE => .move (lt1 rfl) (.tmp (hE.at (k := 0) rfl)))) <| .pure rfl (fun H => .put (fun E hE => .move (lt1 rfl) (.tmp (hE.at (k := 0) rfl)))) <| .pure rfl (fun H => .put (fun E hE => .indexRd (enc := (encI .i64)) (lt1 rfl) (.tmp (hE.at (k := 0) rfl)) (.tmp (hE.at (k := 1) rfl)) Try.underlying26 sz3 (encI_len .i64) rfl hy_23)) <| .pure rfl (fun H => .put (fun E hE => .loadR (v := .sc (.int .i64 y_23)) (lt1 rfl) (.tmp (hE.at (k := 0) rfl)) one3 rfl)) <| .pure rfl (fun H => .put (fun E hE => .indexRd (enc := encR38) (lt1 rfl) (.tmp (hE.at (k := 0) rfl)) (.tmp (hE.at (k := 1) rfl)) Try.underlying22 sz39 encR38_len rfl hy_24)) <| .pure rfl (fun H => .put (fun E hE => .fieldR (lt1 rfl) (.tmp (hE.at (k := 0) rfl)) fld39_1 rfl)) <| .pure rfl (fun H => .put (fun E hE => .loadR (v := .sc (.int .i64 y_24.Length)) (lt1 rfl) (.tmp (hE.at (k := 0) rfl)) one3 rfl)) <| .pure rfl (fun H => .put (fun E hE => .add (lt1 rfl) (.tmp (hE.at (k := 0) rfl)) (.tmp (hE.at (k := 1) rfl)))) <| .pure rfl (fun H => .put (fun E hE => .assign (lt1 rfl) (.tmp (hE.at (k := 0) rfl)))) <| .nil _) (fun E hE => .c (DInv.at hE (k := 0) rfl rfl rfl) <| .c (DInv.at hE (k := 1) rfl rfl rfl) <| .c (DInv.at hE (k := 2) rfl rfl rfl) <| .c (DInv.at hE (k := 25) rfl rfl rfl) <| .c (DInv.at hE (k := 4) rfl rfl rfl) <| .n _) rfl ?_
          refine AWP.vc (s' := ⟨[(0, .rd β1 a0.length (a0.flatMap encR38)), (1, .rd β2 a1.length (a1.flatMap (encI .i64))), (6, .own 1 1 0 x_19.2.2.length), (7, .sc (.int .i64 t7_25)), (8, .sc (.int .i64 x_19.2.1))], [(1, ⟨3, true, x_19.2.2.flatMap (encI .i64)⟩)]⟩) (by subst ht7_25; exact VC.sub (.c rfl <| .c rfl <| .c rfl <| .c rfl <| .c rfl <| .n _) (.c rfl <| .n _)) ?_
          obtain ⟨l1_26, hl1_26, h⟩ := bindS h
          refine AWP.region (.cons (.move (lt1 rfl) (.tmp rfl)) <| .cons (.move (lt1 rfl) (.tmp rfl)) <| .cons (.buildSlice (t := 2) (out := ([t7_25] : List Int).flatMap (encI .i64)) (lt1 rfl) (nm rfl) (.cons (.tmp rfl) (by first | exact ⟨rfl, rfl⟩ | rfl) (.nil)) Try.underlying26 zero3 el3 (by decide) (by decide) rfl (still_all (encI_still .i64) _)) <| .cons (.app (enc := (encI .i64)) (lt1 rfl) (nm rfl) (.tmp rfl) (Src.own (.tmp rfl) rfl (lendAll (encI_len .i64) _) (flatMap_length (encI_len .i64) _) (one_all (encI_one .i64) _) (.inl rfl)) Try.underlying26 ⟨_, Try.underlying26, by intro k hk; cases hk⟩ el3 rfl (encI_len .i64) rfl rfl (by decide) hl1_26) <| .cons (.assign (lt1 rfl) (.tmp rfl)) <| ARun.nil _ _ _) ?_
          refine AWP.vc (s' := ⟨[(0, .rd β1 a0.length (a0.flatMap encR38)), (1, .rd β2 a1.length (a1.flatMap (encI .i64))), (6, .own 1 1 0 l1_26.length), (7, .sc (.int .i64 t7_25)), (8, .sc (.int .i64 x_19.2.1))], [(1, ⟨3, true, l1_26.flatMap (encI .i64)⟩)]⟩) (VC.sub (.c rfl <| .c rfl <| .c rfl <| .c rfl <| .c rfl <| .n _) (.c rfl <| .n _)) ?_
          obtain ⟨t8_27, ht8_27, h⟩ := letS h
          refine AWP.region (.cons (.move (lt1 rfl) (.tmp rfl)) <| .cons (.add (lt1 rfl) (.tmp rfl) (.const _ _ _)) <| .cons (.assign (lt1 rfl) (.tmp rfl)) <| ARun.nil _ _ _) ?_
          exact endJ (t7_25, t8_27, l1_26) h (by subst ht8_27; exact VC.sub (.c rfl <| .c rfl <| .c rfl <| .c rfl <| .c rfl <| .n _) (.c rfl <| .n _))
        · have h := iteF hc h
          refine AWP.exit ?_
          exact endJ x_19.2.2 h (VC.sub (.c rfl <| .n _) (.c rfl <| .n _))
theorem c27 {β1 : Bool} {β2 : Bool} (n : Nat) (a0 : (List R38)) (a1 : (List Int)) {r : (Int × Int)} (h : m27 n a0 a1 = some r) : Spec Try.prog 27 [] [.rd β1 a0.length (a0.flatMap encR38), .rd β2 a1.length (a1.flatMap (encI .i64))] [] (.tup [.sc (.int .i64 r.1), .sc (.int .i64 r.2)]) [] := by
  refine Spec.of (fn := Try.f27) Try.func27 Try.ntmps27 rfl rfl (le1 rfl) (fun w0 Zs Zb T0 ι0 => ?_)
  unfold m27 at h
  refine AWP.seq ?_
  refine AWP.region (.cons (.assign (lt1 rfl) (.const _ _ _)) <| .cons (.assign (lt1 rfl) (.const _ _ _)) <| ARun.nil _ _ _) ?_
  refine AWP.vc (s' := ⟨[(0, .rd β1 a0.length (a0.flatMap encR38)), (1, .rd β2 a1.length (a1.flatMap (encI .i64)))], []⟩) (VC.sub (.c rfl <| .c rfl <| .n _) (.n _)) ?_
  refine AWP.seq ?_
  obtain ⟨y_1, hy_1, h⟩ := bindS h
  refine AWP.region (.cons (.move (lt1 rfl) (.tmp rfl)) <| .cons (.move (lt1 rfl) (.tmp rfl)) <| .cons (.call0 (bw := false) (lt1 rfl) (c23 (β1 := β1) (β2 := β2) n a0 a1 hy_1) (.cons (.tmp rfl) (.ren rfl) (.cons (.tmp rfl) (.ren rfl) (.nil))) rfl) <| .cons (.move (lt1 rfl) (.tmp rfl)) <| .cons (.extract (lt1 rfl) (.tmp rfl) rfl) <| .cons (.extract (lt1 rfl) (.tmp rfl) rfl) <| .cons (.assign (lt1 rfl) (.tmp rfl)) <| .cons (.assign (lt1 rfl) (.tmp rfl)) <| ARun.nil _ _ _) ?_
  refine AWP.vc (s' := ⟨[(0, .rd β1 a0.length (a0.flatMap encR38)), (1, .rd β2 a1.length (a1.flatMap (encI .i64))), (6, .rd false y_1.1.length (y_1.1.flatMap (encI .i64))), (7, .sc (.int .i64 y_1.2))], []⟩) (VC.sub (.c rfl <| .c rfl <| .c rfl <| .c rfl <| .n _) (.n _)) ?_
  refine AWP.seq ?_
  refine AWP.region (.cons (.assign (lt1 rfl) (.const _ _ _)) <| ARun.nil _ _ _) ?_
  refine AWP.vc (s' := ⟨[(0, .rd β1 a0.length (a0.flatMap encR38)), (1, .rd β2 a1.length (a1.flatMap (encI .i64))), (6, .rd false y_1.1.length (y_1.1.flatMap (encI .i64))), (7, .sc (.int .i64 y_1.2)), (8, .sc (.int .i64 (0 : Int)))], []⟩) (VC.sub (.c rfl <| .c rfl <| .c rfl <| .c rfl <| .c rfl <| .n _) (.n _)) ?_
  refine AWP.seq ?_
  refine AWP.seq ?_
  refine AWP.region (.cons (.assign (lt1 rfl) (.const _ _ _)) <| ARun.nil _ _ _) ?_
  refine AWP.vc (s' := ⟨[(0, .rd β1 a0.length (a0.flatMap encR38)), (1, .rd β2 a1.length (a1.flatMap (encI .i64))), (6, .rd false y_1.1.length (y_1.1.flatMap (encI .i64))), (7, .sc (.int .i64 y_1.2)), (8, .sc (.int .i64 (0 : Int))), (9, .sc (.int .i64 (0 : Int)))], []⟩) (VC.sub (.c rfl <| .c rfl <| .c rfl <| .c rfl <| .c rfl <| .c rfl <| .n _) (.n _)) ?_
  refine AWP.joinB' (S := fun p_21 : Int => ⟨[(7, .sc (.int .i64 y_1.2)), (8, .sc (.int .i64 p_21))], []⟩) h (fun p_21 h => ?_) (fun k_22 h => ?_)
  · refine AWP.seq ?_
    refine AWP.region (.cons (.move (lt1 rfl) (.tmp rfl)) <| .cons (.move (lt1 rfl) (.tmp rfl)) <| .cons (.assign (lt1 rfl) (.tmp rfl)) <| .cons (.assign (lt1 rfl) (.tmp rfl)) <| ARun.nil _ _ _) ?_
    refine AWP.ret ?_
    obtain rfl := Option.some.inj h
    refine retJ (Res.vc (s' := ⟨[(4, .sc (.int .i64 p_21)), (5, .sc (.int .i64 y_1.2))], []⟩) (VC.sub (.c rfl <| .c rfl <| .n _) (.n _)) ?_)
    refine Res.drop (H := []) rfl ?_
    exact Res.of rfl (.cons (.tmp rfl) (.cons (.tmp rfl) (.nil))) rfl rfl
  · refine AWP.vc (s' := ⟨[(0, .rd β1 a0.length (a0.flatMap encR38)), (1, .rd β2 a1.length (a1.flatMap (encI .i64))), (6, .rd false y_1.1.length (y_1.1.flatMap (encI .i64))), (7, .sc (.int .i64 y_1.2)), (8, .sc (.int .i64 (0 : Int))), (9, .sc (.int .i64 (0 : Int)))], []⟩) (VC.sub (.c rfl <| .c rfl <| .c rfl <| .c rfl <| .c rfl <| .c rfl <| .n _) (.n _)) ?_
    refine AWP.loopM (S := fun x_14 : Int × Int => ⟨[(0, .rd β1 a0.length (a0.flatMap encR38)), (1, .rd β2 a1.length (a1.flatMap (encI .i64))), (6, .rd false y_1.1.length (y_1.1.flatMap (encI .i64))), (7, .sc (.int .i64 y_1.2)), (8, .sc (.int .i64 x_14.1)), (9, .sc (.int .i64 x_14.2))], []⟩) (x := ((0 : Int), (0 : Int))) (fun nx_15 x_14 h => ?_) h
    unfold m27_L1 at h
    refine AWP.seq ?_
    refine AWP.seq ?_
    refine AWP.region (.cons (.move (lt1 rfl) (.tmp rfl)) <| .cons (.move (lt1 rfl) (.tmp rfl)) <| .cons (.lenRd (lt1 rfl) (.tmp rfl) Try.underlying26) <| .cons (.lss (lt1 rfl) (.tmp rfl) (.tmp rfl)) <| ARun.nil _ _ _) ?_
    refine AWP.vc (s' := ⟨[(0, .rd β1 a0.length (a0.flatMap encR38)), (1, .rd β2 a1.length (a1.flatMap (encI .i64))), (6, .rd false y_1.1.length (y_1.1.flatMap (encI .i64))), (7, .sc (.int .i64 y_1.2)), (8, .sc (.int .i64 x_14.1)), (9, .sc (.int .i64 x_14.2)), (19, .sc (.bool (decide (x_14.2 < (y_1.1.length : Int)))))], []⟩) (VC.sub (.c rfl <| .c rfl <| .c rfl <| .c rfl <| .c rfl <| .c rfl <| .c rfl <| .n _) (.n _)) ?_
    refine AWP.cond (.tmp rfl) (fun hc => ?_) (fun hc => ?_)
    · have h := iteT hc h
      refine AWP.skip ?_
      refine AWP.seq ?_
      refine AWP.block ?_
      obtain ⟨y_16, hy_16, h⟩ := bindS h
      obtain ⟨y_17, hy_17, h⟩ := bindS h
      obtain ⟨y_18, hy_18, h⟩ := bindS h
      obtain ⟨t8_19, ht8_19, h⟩ := letS h
      refine AWP.draw (s' := ⟨[(0, .rd β1 a0.length (a0.flatMap encR38)), (1, .rd β2 a1.length (a1.flatMap (encI .i64))), (6, .rd false y_1.1.length (y_1.1.flatMap (encI .i64))), (7, .sc (.int .i64 y_1.2)), (8, .sc (.int .i64 (IntKind.wrap .i64 (x_14.1 + (if (IntKind.wrap .i64 (y_16 - y_18.Due)) > (0 : Int) then (IntKind.wrap .i64 (y_16 - y_18.Due)) else (0 : Int)))))), (9, .sc (.int .i64 x_14.2))], []⟩) mixed [⟨0, .rd β1 a0.length (a0.flatMap encR38), none, []⟩, ⟨1, .rd β2 a1.length (a1.flatMap (encI .i64)), none, []⟩, ⟨6, .rd false y_1.1.length (y_1.1.flatMap (encI .i64)), none, []⟩, ⟨7, .sc (.int .i64 y_1.2), none, []⟩, ⟨8, .sc (.int .i64 x_14.1), none, [16]⟩, ⟨9, .sc (.int .i64 x_14.2), none, []⟩, ⟨19, .sc (.bool (decide (x_14.2 < (y_1.1.length : Int)))), none, []⟩, ⟨22, .sc (.int .i64 x_14.1), some 0, []⟩, ⟨23, .rd false y_1.1.length (y_1.1.flatMap (encI .i64)), some 1, []⟩, ⟨24, .sc (.int .i64 x_14.2), some 2, []⟩, ⟨25, .rptr false [.sc (.int .i64 y_16)], some 3, []⟩, ⟨26, .sc (.int .i64 y_16), some 4, []⟩, ⟨27, .rd β1 a0.length (a0.flatMap encR38), some 5, []⟩, ⟨28, .rd β2 a1.length (a1.flatMap (encI .i64)), some 6, []⟩, ⟨29, .sc (.int .i64 x_14.2), some 7, []⟩, ⟨30, .rptr β2 [.sc (.int .i64 y_17)], some 8, []⟩, ⟨31, .sc (.int .i64 y_17), some 9, []⟩, ⟨32, .rptr β1 [.sc (.int .i64 y_18.Release), .sc (.int .i64 y_18.Length), .sc (.int .i64 y_18.Due)], some 10, []⟩, ⟨33, .rptr β1 [.sc (.int .i64 y_18.Due)], some 11, []⟩, ⟨34, .sc (.int .i64 y_18.Due), some 12, []⟩, ⟨35, .sc (.int .i64 (IntKind.wrap .i64 (y_16 - y_18.Due))), some 13, []⟩, ⟨36, .sc (.int .i64 (if (IntKind.wrap .i64 (y_16 - y_18.Due)) > (0 : Int) then (IntKind.wrap .i64 (y_16 - y_18.Due)) else (0 : Int))), some 14, []⟩, ⟨37, .sc (.int .i64 (IntKind.wrap .i64 (x_14.1 + (if (IntKind.wrap .i64 (y_16 - y_18.Due)) > (0 : Int) then (IntKind.wrap .i64 (y_16 - y_18.Due)) else (0 : Int))))), some 15, []⟩, ⟨8, .sc (.int .i64 (IntKind.wrap .i64 (x_14.1 + (if (IntKind.wrap .i64 (y_16 - y_18.Due)) > (0 : Int) then (IntKind.wrap .i64 (y_16 - y_18.Due)) else (0 : Int))))), some 16, []⟩] [⟨[4], 0, 0, some (22, .sc (.int .i64 x_14.1)), []⟩, ⟨[2], 0, 0, some (23, .rd false y_1.1.length (y_1.1.flatMap (encI .i64))), []⟩, ⟨[5], 0, 0, some (24, .sc (.int .i64 x_14.2)), []⟩, ⟨[8, 9], 0, 0, some (25, .rptr false [.sc (.int .i64 y_16)]), []⟩, ⟨[10], 0, 0, some (26, .sc (.int .i64 y_16)), []⟩, ⟨[0], 0, 0, some (27, .rd β1 a0.length (a0.flatMap encR38)), []⟩, ⟨[1], 0, 0, some (28, .rd β2 a1.length (a1.flatMap (encI .i64))), []⟩, ⟨[5], 0, 0, some (29, .sc (.int .i64 x_14.2)), []⟩, ⟨[13, 14], 0, 0, some (30, .rptr β2 [.sc (.int .i64 y_17)]), []⟩, ⟨[15], 0, 0, some (31, .sc (.int .i64 y_17)), []⟩, ⟨[12, 16], 0, 0, some (32, .rptr β1 [.sc (.int .i64 y_18.Release), .sc (.int .i64 y_18.Length), .sc (.int .i64 y_18.Due)]), []⟩, ⟨[17], 0, 0, some (33, .rptr β1 [.sc (.int .i64 y_18.Due)]), []⟩, ⟨[18], 0, 0, some (34, .sc (.int .i64 y_18.Due)), []⟩, ⟨[11, 19], 0, 0, some (35, .sc (.int .i64 (IntKind.wrap .i64 (y_16 - y_18.Due)))), []⟩, ⟨[20], 0, 0, some (36, .sc (.int .i64 (if (IntKind.wrap .i64 (y_16 - y_18.Due)) > (0 : Int) then (IntKind.wrap .i64 (y_16 - y_18.Due)) else (0 : Int)))), []⟩, ⟨[7, 21], 0, 0, some (37, .sc (.int .i64 (IntKind.wrap .i64 (x_14.1 + (if (IntKind.wrap .i64 (y_16 - y_18.Due)) > (0 : Int) then (IntKind.wrap .i64 (y_16 - y_18.Due)) else (0 : Int)))))), []⟩, ⟨[22], 0, 0, some (8, .sc (.int .i64 (IntKind.wrap .i64 (x_14.1 + (if (IntKind.wrap .i64 (y_16 - y_18.Due)) > (0 : Int) then (IntKind.wrap .i64 (y_16 - y_18.Due)) else (0 : Int)))))), []⟩] [] [[]] [[], [], [], [1, 2], [1, 2, 3], [], [], [], [6, 7], [6, 7, 8], [5, 6, 7, 8, 9], [5, 6, 7, 8, 9, 10], [5, 6, 7, 8, 9, 10, 11], [1, 2, 3, 4, 5, 6, 7, 8, 9, 10, 11, 12], [1, 2, 3, 4, 5, 6, 7, 8, 9, 10, 11, 12, 13], [0, 1, 2, 3, 4, 5, 6, 7, 8, 9, 10, 11, 12, 13, 14], [0, 1, 2, 3, 4, 5, 6, 7, 8, 9, 10, 11, 12, 13, 14, 15]] (by kernel_rfl) (by kernel_rfl) (BornL.ok (.o <| .o <| .o <| .o <| .o <| .o <| .o <| .b rfl rfl <| .b rfl rfl <| .b rfl rfl <| .b rfl rfl <| .b rfl rfl <| .b rfl rfl <| .b rfl rfl <| .b rfl rfl <| .b rfl rfl <| .b rfl rfl <| .b rfl rfl <| .b rfl rfl <| .b rfl rfl <| .b rfl rfl <| .b rfl rfl <| .b rfl rfl <| .b rfl rfl <| .n)) (BaseL.ok (.o rfl <| .o rfl <| .o rfl <| .o rfl <| .o rfl <| .o rfl <| .o rfl <| .b <| .b <| .b <| .b <| .b <| .b <| .b <| .b <| .b <| .b <| .b <| .b <| .b <| .b <| .b <| .b <| .b <| .n)) rfl (by decide) (allLt rfl) (.pure rfl (fun H => .put (fun E hE => .move (lt1 rfl) (.tmp (hE.at (k := 0) rfl)))) <| .pure rfl (fun H => .put (fun E hE => .move (lt1 rfl) (.tmp (hE.at (k := 0) rfl)))) <| .pure rfl (fun H => .put (fun E hE => .move (lt1 rfl) (.tmp (hE.at (k := 0) rfl)))) <| .pure rfl (fun H => .put (fun E hE => .indexRd (enc := (encI .i64)) (lt1 rfl) (.tmp (hE.at (k := 0) rfl)) (.tmp (hE.at (k := 1) rfl)) Try.underlying26 sz3 (encI_len .i64) rfl hy_16)) <| .pure rfl (fun H => .put (fun E hE => .loadR (v := .sc (.int .i64 y_16)) (lt1 rfl) (.tmp (hE.at (k := 0) rfl)) one3 rfl)) <| .pure rfl (fun H => .put (fun E hE => .move (lt1 rfl) (.tmp (hE.at (k := 0) rfl)))) <| .pure rfl (fun H => .put (fun E hE => .move (lt1 rfl) (.tmp (hE.at (k := 0) rfl)))) <| .pure rfl (fun H => .put (fun E hE => .move (lt1 rfl) (.tmp (hE.at (k := 0) rfl)))) <| .pure rfl (fun H => .put (fun E hE => .indexRd (enc := (encI .i64)) (lt1 rfl) (.tmp (hE.at (k := 0) rfl)) (.tmp (hE.at (k := 1) rfl)) Try.underlying26 sz3 (encI_len .i64) rfl hy_17)) <| .pure rfl (fun H => .put (fun E hE => .loadR (v := .sc (.int .i64 y_17)) (lt1 rfl) (.tmp (hE.at (k := 0) rfl)) one3 rfl)) <| .pure rfl (fun H => .put (fun E hE => .indexRd (enc := encR38) (lt1 rfl) (.tmp (hE.at (k := 0) rfl)) (.tmp (hE.at (k := 1) rfl)) Try.underlying22 sz39 encR38_len rfl hy_18)) <| .pure rfl (fun H => .put (fun E hE => .fieldR (lt1 rfl) (.tmp (hE.at (k := 0) rfl)) fld39_2 rfl)) <| .pure rfl (fun H => .put (fun E hE => .loadR (v := .sc (.int .i64 y_18.Due)) (lt1 rfl) (.tmp (hE.at (k := 0) rfl)) one3 rfl)) <| .pure rfl (fun H => .put (fun E hE => .sub (lt1 rfl) (.tmp (hE.at (k := 0) rfl)) (.tmp (hE.at (k := 1) rfl)))) <| .pure rfl (fun H => .put (fun E hE => .max2 (lt1 rfl) (.const _ _ _) (.tmp (hE.at (k := 0) rfl)))) <| .pure rfl (fun H => .put (fun E hE => .add (lt1 rfl) (.tmp (hE.at (k := 0) rfl)) (.tmp (hE.at (k := 1) rfl)))) <| .pure rfl (fun H => .put (fun E hE => .assign (lt1 rfl) (.tmp (hE.at (k := 0) rfl)))) <| .nil _) (fun E hE => .c (DInv.at hE (k := 0) rfl rfl rfl) <| .c (DInv.at hE (k := 1) rfl rfl rfl) <| .c (DInv.at hE (k := 2) rfl rfl rfl) <| .c (DInv.at hE (k := 3) rfl rfl rfl) <| .c (DInv.at hE (k := 23) rfl rfl rfl) <| .c (DInv.at hE (k := 5) rfl rfl rfl) <| .n _) rfl ?_
      refine AWP.vc (s' := ⟨[(0, .rd β1 a0.length (a0.flatMap encR38)), (1, .rd β2 a1.length (a1.flatMap (encI .i64))), (6, .rd false y_1.1.length (y_1.1.flatMap (encI .i64))), (7, .sc (.int .i64 y_1.2)), (8, .sc (.int .i64 t8_19)), (9, .sc (.int .i64 x_14.2))], []⟩) (by subst ht8_19; exact VC.sub (.c rfl <| .c rfl <| .c rfl <| .c rfl <| .c rfl <| .c rfl <| .n _) (.n _)) ?_
      obtain ⟨t9_20, ht9_20, h⟩ := letS h
      refine AWP.region (.cons (.move (lt1 rfl) (.tmp rfl)) <| .cons (.add (lt1 rfl) (.tmp rfl) (.const _ _ _)) <| .cons (.assign (lt1 rfl) (.tmp rfl)) <| ARun.nil _ _ _) ?_
      exact endJ (t8_19, t9_20) h (by subst ht9_20; exact VC.sub (.c rfl <| .c rfl <| .c rfl <| .c rfl <| .c rfl <| .c rfl <| .n _) (.n _))
    · have h := iteF hc h
      refine AWP.exit ?_
      exact endJ x_14.1 h (VC.sub (.c rfl <| .c rfl <| .n _) (.n _))
theorem c25 {β1 : Bool} {β2 : Bool} (n : Nat) (a0 : (List R38)) (a1 : (List Int)) {r : (Int × Int)} (h : m25 n a0 a1 = some r) : Spec Try.prog 25 [] [.rd β1 a0.length (a0.flatMap encR38), .rd β2 a1.length (a1.flatMap (encI .i64))] [] (.tup [.sc (.int .i64 r.1), .sc (.int .i64 r.2)]) [] := by
  refine Spec.of (fn := Try.f25) Try.func25 Try.ntmps25 rfl rfl (le1 rfl) (fun w0 Zs Zb T0 ι0 => ?_)
  unfold m25 at h
  refine AWP.seq ?_
  refine AWP.region (.cons (.assign (lt1 rfl) (.const _ _ _)) <| .cons (.assign (lt1 rfl) (.const _ _ _)) <| ARun.nil _ _ _) ?_
  refine AWP.vc (s' := ⟨[(0, .rd β1 a0.length (a0.flatMap encR38)), (1, .rd β2 a1.length (a1.flatMap (encI .i64)))], []⟩) (VC.sub (.c rfl <| .c rfl <| .n _) (.n _)) ?_
  refine AWP.seq ?_
  obtain ⟨y_1, hy_1, h⟩ := bindS h
  refine AWP.region (.cons (.move (lt1 rfl) (.tmp rfl)) <| .cons (.move (lt1 rfl) (.tmp rfl)) <| .cons (.call0 (bw := false) (lt1 rfl) (c23 (β1 := β1) (β2 := β2) n a0 a1 hy_1) (.cons (.tmp rfl) (.ren rfl) (.cons (.tmp rfl) (.ren rfl) (.nil))) rfl) <| .cons (.move (lt1 rfl) (.tmp rfl)) <| .cons (.extract (lt1 rfl) (.tmp rfl) rfl) <| .cons (.extract (lt1 rfl) (.tmp rfl) rfl) <| .cons (.assign (lt1 rfl) (.tmp rfl)) <| .cons (.assign (lt1 rfl) (.tmp rfl)) <| ARun.nil _ _ _) ?_
  refine AWP.vc (s' := ⟨[(0, .rd β1 a0.length (a0.flatMap encR38)), (1, .rd β2 a1.length (a1.flatMap (encI .i64))), (6, .rd false y_1.1.length (y_1.1.flatMap (encI .i64))), (7, .sc (.int .i64 y_1.2))], []⟩) (VC.sub (.c rfl <| .c rfl <| .c rfl <| .c rfl <| .n _) (.n _)) ?_
  refine AWP.seq ?_
  refine AWP.region (.cons (.assign (lt1 rfl) (.const _ _ _)) <| ARun.nil _ _ _) ?_
  refine AWP.vc (s' := ⟨[(0, .rd β1 a0.length (a0.flatMap encR38)), (1, .rd β2 a1.length (a1.flatMap (encI .i64))), (6, .rd false y_1.1.length (y_1.1.flatMap (encI .i64))), (7, .sc (.int .i64 y_1.2)), (8, .sc (.int .i64 (0 : Int)))], []⟩) (VC.sub (.c rfl <| .c rfl <| .c rfl <| .c rfl <| .c rfl <| .n _) (.n _)) ?_
  refine AWP.seq ?_
  refine AWP.seq ?_
  refine AWP.region (.cons (.assign (lt1 rfl) (.const _ _ _)) <| ARun.nil _ _ _) ?_
  refine AWP.vc (s' := ⟨[(0, .rd β1 a0.length (a0.flatMap encR38)), (1, .rd β2 a1.length (a1.flatMap (encI .i64))), (6, .rd false y_1.1.length (y_1.1.flatMap (encI .i64))), (7, .sc (.int .i64 y_1.2)), (8, .sc (.int .i64 (0 : Int))), (9, .sc (.int .i64 (0 : Int)))], []⟩) (VC.sub (.c rfl <| .c rfl <| .c rfl <| .c rfl <| .c rfl <| .c rfl <| .n _) (.n _)) ?_
  refine AWP.joinB' (S := fun p_27 : Int => ⟨[(7, .sc (.int .i64 y_1.2)), (8, .sc (.int .i64 p_27))], []⟩) h (fun p_27 h => ?_) (fun k_28 h => ?_)
  · refine AWP.seq ?_
    refine AWP.region (.cons (.move (lt1 rfl) (.tmp rfl)) <| .cons (.move (lt1 rfl) (.tmp rfl)) <| .cons (.assign (lt1 rfl) (.tmp rfl)) <| .cons (.assign (lt1 rfl) (.tmp rfl)) <| ARun.nil _ _ _) ?_
    refine AWP.ret ?_
    obtain rfl := Option.some.inj h
    refine retJ (Res.vc (s' := ⟨[(4, .sc (.int .i64 p_27)), (5, .sc (.int .i64 y_1.2))], []⟩) (VC.sub (.c rfl <| .c rfl <| .n _) (.n _)) ?_)
    refine Res.drop (H := []) rfl ?_
    exact Res.of rfl (.cons (.tmp rfl) (.cons (.tmp rfl) (.nil))) rfl rfl
  · refine AWP.vc (s' := ⟨[(0, .rd β1 a0.length (a0.flatMap encR38)), (1, .rd β2 a1.length (a1.flatMap (encI .i64))), (6, .rd false y_1.1.length (y_1.1.flatMap (encI .i64))), (7, .sc (.int .i64 y_1.2)), (8, .sc (.int .i64 (0 : Int))), (9, .sc (.int .i64 (0 : Int)))], []⟩) (VC.sub (.c rfl <| .c rfl <| .c rfl <| .c rfl <| .c rfl <| .c rfl <| .n _) (.n _)) ?_
    refine AWP.loopM (S := fun x_18 : Int × Int => ⟨[(0, .rd β1 a0.length (a0.flatMap encR38)), (1, .rd β2 a1.length (a1.flatMap (encI .i64))), (6, .rd false y_1.1.length (y_1.1.flatMap (encI .i64))), (7, .sc (.int .i64 y_1.2)), (8, .sc (.int .i64 x_18.1)), (9, .sc (.int .i64 x_18.2))], []⟩) (x := ((0 : Int), (0 : Int))) (fun nx_19 x_18 h => ?_) h
    unfold m25_L1 at h
    refine AWP.seq ?_
    refine AWP.seq ?_
    refine AWP.region (.cons (.move (lt1 rfl) (.tmp rfl)) <| .cons (.move (lt1 rfl) (.tmp rfl)) <| .cons (.lenRd (lt1 rfl) (.tmp rfl) Try.underlying26) <| .cons (.lss (lt1 rfl) (.tmp rfl) (.tmp rfl)) <| ARun.nil _ _ _) ?_
    refine AWP.vc (s' := ⟨[(0, .rd β1 a0.length (a0.flatMap encR38)), (1, .rd β2 a1.length (a1.flatMap (encI .i64))), (6, .rd false y_1.1.length (y_1.1.flatMap (encI .i64))), (7, .sc (.int .i64 y_1.2)), (8, .sc (.int .i64 x_18.1)), (9, .sc (.int .i64 x_18.2)), (20, .sc (.bool (decide (x_18.2 < (y_1.1.length : Int)))))], []⟩) (VC.sub (.c rfl <| .c rfl <| .c rfl <| .c rfl <| .c rfl <| .c rfl <| .c rfl <| .n _) (.n _)) ?_
    refine AWP.cond (.tmp rfl) (fun hc => ?_) (fun hc => ?_)
    · have h := iteT hc h
      refine AWP.skip ?_
      refine AWP.seq ?_
      refine AWP.block ?_
      refine AWP.seq ?_
      obtain ⟨y_20, hy_20, h⟩ := bindS h
      obtain ⟨y_21, hy_21, h⟩ := bindS h
      obtain ⟨y_22, hy_22, h⟩ := bindS h
      obtain ⟨t10_23, ht10_23, h⟩ := letS h
      refine AWP.draw (s' := ⟨[(0, .rd β1 a0.length (a0.flatMap encR38)), (1, .rd β2 a1.length (a1.flatMap (encI .i64))), (6, .rd false y_1.1.length (y_1.1.flatMap (encI .i64))), (7, .sc (.int .i64 y_1.2)), (8, .sc (.int .i64 x_18.1)), (9, .sc (.int .i64 x_18.2)), (10, .sc (.int .i64 (IntKind.wrap .i64 (y_20 - y_22.Due))))], []⟩) mixed [⟨0, .rd β1 a0.length (a0.flatMap encR38), none, []⟩, ⟨1, .rd β2 a1.length (a1.flatMap (encI .i64)), none, []⟩, ⟨6, .rd false y_1.1.length (y_1.1.flatMap (encI .i64)), none, []⟩, ⟨7, .sc (.int .i64 y_1.2), none, []⟩, ⟨8, .sc (.int .i64 x_18.1), none, []⟩, ⟨9, .sc (.int .i64 x_18.2), none, []⟩, ⟨20, .sc (.bool (decide (x_18.2 < (y_1.1.length : Int)))), none, []⟩, ⟨23, .rd false y_1.1.length (y_1.1.flatMap (encI .i64)), some 0, []⟩, ⟨24, .sc (.int .i64 x_18.2), some 1, []⟩, ⟨25, .rptr false [.sc (.int .i64 y_20)], some 2, []⟩, ⟨26, .sc (.int .i64 y_20), some 3, []⟩, ⟨27, .rd β1 a0.length (a0.flatMap encR38), some 4, []⟩, ⟨28, .rd β2 a1.length (a1.flatMap (encI .i64)), some 5, []⟩, ⟨29, .sc (.int .i64 x_18.2), some 6, []⟩, ⟨30, .rptr β2 [.sc (.int .i64 y_21)], some 7, []⟩, ⟨31, .sc (.int .i64 y_21), some 8, []⟩, ⟨32, .rptr β1 [.sc (.int .i64 y_22.Release), .sc (.int .i64 y_22.Length), .sc (.int .i64 y_22.Due)], some 9, []⟩, ⟨33, .rptr β1 [.sc (.int .i64 y_22.Due)], some 10, []⟩, ⟨34, .sc (.int .i64 y_22.Due), some 11, []⟩, ⟨35, .sc (.int .i64 (IntKind.wrap .i64 (y_20 - y_22.Due))), some 12, []⟩, ⟨10, .sc (.int .i64 (IntKind.wrap .i64 (y_20 - y_22.Due))), some 13, []⟩] [⟨[2], 0, 0, some (23, .rd false y_1.1.length (y_1.1.flatMap (encI .i64))), []⟩, ⟨[5], 0, 0, some (24, .sc (.int .i64 x_18.2)), []⟩, ⟨[7, 8], 0, 0, some (25, .rptr false [.sc (.int .i64 y_20)]), []⟩, ⟨[9], 0, 0, some (26, .sc (.int .i64 y_20)), []⟩, ⟨[0], 0, 0, some (27, .rd β1 a0.length (a0.flatMap encR38)), []⟩, ⟨[1], 0, 0, some (28, .rd β2 a1.length (a1.flatMap (encI .i64))), []⟩, ⟨[5], 0, 0, some (29, .sc (.int .i64 x_18.2)), []⟩, ⟨[12, 13], 0, 0, some (30, .rptr β2 [.sc (.int .i64 y_21)]), []⟩, ⟨[14], 0, 0, some (31, .sc (.int .i64 y_21)), []⟩, ⟨[11, 15], 0, 0, some (32, .rptr β1 [.sc (.int .i64 y_22.Release), .sc (.int .i64 y_22.Length), .sc (.int .i64 y_22.Due)]), []⟩, ⟨[16], 0, 0, some (33, .rptr β1 [.sc (.int .i64 y_22.Due)]), []⟩, ⟨[17], 0, 0, some (34, .sc (.int .i64 y_22.Due)), []⟩, ⟨[10, 18], 0, 0, some (35, .sc (.int .i64 (IntKind.wrap .i64 (y_20 - y_22.Due)))), []⟩, ⟨[19], 0, 0, some (10, .sc (.int .i64 (IntKind.wrap .i64 (y_20 - y_22.Due)))), []⟩] [] [[]] [[], [], [0, 1], [0, 1, 2], [], [], [], [5, 6], [5, 6, 7], [4, 5, 6, 7, 8], [4, 5, 6, 7, 8, 9], [4, 5, 6, 7, 8, 9, 10], [0, 1, 2, 3, 4, 5, 6, 7, 8, 9, 10, 11], [0, 1, 2, 3, 4, 5, 6, 7, 8, 9, 10, 11, 12]] (by kernel_rfl) (by kernel_rfl) (BornL.ok (.o <| .o <| .o <| .o <| .o <| .o <| .o <| .b rfl rfl <| .b rfl rfl <| .b rfl rfl <| .b rfl rfl <| .b rfl rfl <| .b rfl rfl <| .b rfl rfl <| .b rfl rfl <| .b rfl rfl <| .b rfl rfl <| .b rfl rfl <| .b rfl rfl <| .b rfl rfl <| .b rfl rfl <| .n)) (BaseL.ok (.o rfl <| .o rfl <| .o rfl <| .o rfl <| .o rfl <| .o rfl <| .o rfl <| .b <| .b <| .b <| .b <| .b <| .b <| .b <| .b <| .b <| .b <| .b <| .b <| .b <| .b <| .n)) rfl (by decide) (allLt rfl) (.pure rfl (fun H => .put (fun E hE => .move (lt1 rfl) (.tmp (hE.at (k := 0) rfl)))) <| .pure rfl (fun H => .put (fun E hE => .move (lt1 rfl) (.tmp (hE.at (k := 0) rfl)))) <| .pure rfl (fun H => .put (fun E hE => .indexRd (enc := (encI .i64)) (lt1 rfl) (.tmp (hE.at (k := 0) rfl)) (.tmp (hE.at (k := 1) rfl)) Try.underlying26 sz3 (encI_len .i64) rfl hy_20)) <| .pure rfl (fun H => .put (fun E hE => .loadR (v := .sc (.int .i64 y_20)) (lt1 rfl) (.tmp (hE.at (k := 0) rfl)) one3 rfl)) <| .pure rfl (fun H => .put (fun E hE => .move (lt1 rfl) (.tmp (hE.at (k := 0) rfl)))) <| .pure rfl (fun H => .put (fun E hE => .move (lt1 rfl) (.tmp (hE.at (k := 0) rfl)))) <| .pure rfl (fun H => .put (fun E hE => .move (lt1 rfl) (.tmp (hE.at (k := 0) rfl)))) <| .pure rfl (fun H => .put (fun E hE => .indexRd (enc := (encI .i64)) (lt1 rfl) (.tmp (hE.at (k := 0) rfl)) (.tmp (hE.at (k := 1) rfl)) Try.underlying26 sz3 (encI_len .i64) rfl hy_21)) <| .pure rfl (fun H => .put (fun E hE => .loadR (v := .sc (.int .i64 y_21)) (lt1 rfl) (.tmp (hE.at (k := 0) rfl)) one3 rfl)) <| .pure rfl (fun H => .put (fun E hE => .indexRd (enc := encR38) (lt1 rfl) (.tmp (hE.at (k := 0) rfl)) (.tmp (hE.at (k := 1) rfl)) Try.underlying22 sz39 encR38_len rfl hy_22)) <| .pure rfl (fun H => .put (fun E hE => .fieldR (lt1 rfl) (.tmp (hE.at (k := 0) rfl)) fld39_2 rfl)) <| .pure rfl (fun H => .put (fun E hE => .loadR (v := .sc (.int .i64 y_22.Due)) (lt1 rfl) (.tmp (hE.at (k := 0) rfl)) one3 rfl)) <| .pure rfl (fun H => .put (fun E hE => .sub (lt1 rfl) (.tmp (hE.at (k := 0) rfl)) (.tmp (hE.at (k := 1) rfl)))) <| .pure rfl (fun H => .put (fun E hE => .assign (lt1 rfl) (.tmp (hE.at (k := 0) rfl)))) <| .nil _) (fun E hE => .c (DInv.at hE (k := 0) rfl rfl rfl) <| .c (DInv.at hE (k := 1) rfl rfl rfl) <| .c (DInv.at hE (k := 2) rfl rfl rfl) <| .c (DInv.at hE (k := 3) rfl rfl rfl) <| .c (DInv.at hE (k := 4) rfl rfl rfl) <| .c (DInv.at hE (k := 5) rfl rfl rfl) <| .c (DInv.at hE (k := 20) rfl rfl rfl) <| .n _) rfl ?_
      refine AWP.vc (s' := ⟨[(0, .rd β1 a0.length (a0.flatMap encR38)), (1, .rd β2 a1.length (a1.flatMap (encI .i64))), (6, .rd false y_1.1.length (y_1.1.flatMap (encI .i64))), (7, .sc (.int .i64 y_1.2)), (8, .sc (.int .i64 x_18.1)), (9, .sc (.int .i64 x_18.2)), (10, .sc (.int .i64 t10_23))], []⟩) (by subst ht10_23; exact VC.sub (.c rfl <| .c rfl <| .c rfl <| .c rfl <| .c rfl <| .c rfl <| .c rfl <| .n _) (.n _)) ?_
      refine AWP.seq ?_
      refine AWP.region (.cons (.move (lt1 rfl) (.tmp rfl)) <| .cons (.eql (lt1 rfl) (.tmp rfl) (.const _ _ _)) <| .cons (.move (lt1 rfl) (.tmp rfl)) <| .guard (j := 2) (dj := 38) rfl (lt1 rfl) rfl (lt1 rfl) (fun hg => .move (lt1 rfl) (.tmp rfl)) <| .guard (j := 2) (dj := 38) rfl (lt1 rfl) rfl (lt1 rfl) (fun hg => .move (lt1 rfl) (.tmp rfl)) <| .guard (j := 2) (dj := 38) rfl (lt1 rfl) rfl (lt1 rfl) (fun hg => .gtr (lt1 rfl) (.gd hg (.tmp rfl)) (.gd hg (.tmp rfl))) <| .cons (.pickOr (lt1 rfl) (.tmp rfl) (.const _ _ _) (.tmp rfl)) <| ARun.nil _ _ _) ?_
      refine AWP.vc (s' := ⟨[(0, .rd β1 a0.length (a0.flatMap encR38)), (1, .rd β2 a1.length (a1.flatMap (encI .i64))), (6, .rd false y_1.1.length (y_1.1.flatMap (encI .i64))), (7, .sc (.int .i64 y_1.2)), (8, .sc (.int .i64 x_18.1)), (9, .sc (.int .i64 x_18.2)), (10, .sc (.int .i64 t10_23)), (42, .sc (.bool ((decide (x_18.2 = (0 : Int))) || (decide (x_18.1 < t10_23)))))], []⟩) (VC.sub (.c rfl <| .c rfl <| .c rfl <| .c rfl <| .c rfl <| .c rfl <| .c rfl <| .c rfl <| .n _) (.n _)) ?_
      refine AWP.join' (S := fun p_24 : Int => ⟨[(0, .rd β1 a0.length (a0.flatMap encR38)), (1, .rd β2 a1.length (a1.flatMap (encI .i64))), (6, .rd false y_1.1.length (y_1.1.flatMap (encI .i64))), (7, .sc (.int .i64 y_1.2)), (8, .sc (.int .i64 p_24)), (9, .sc (.int .i64 x_18.2))], []⟩) h (fun p_24 h => ?_) (fun k_25 h => ?_)
      · obtain ⟨t9_26, ht9_26, h⟩ := letS h
        refine AWP.region (.cons (.move (lt1 rfl) (.tmp rfl)) <| .cons (.add (lt1 rfl) (.tmp rfl) (.const _ _ _)) <| .cons (.assign (lt1 rfl) (.tmp rfl)) <| ARun.nil _ _ _) ?_
        exact endJ (p_24, t9_26) h (by subst ht9_26; exact VC.sub (.c rfl <| .c rfl <| .c rfl <| .c rfl <| .c rfl <| .c rfl <| .n _) (.n _))
      · refine AWP.cond (.tmp rfl) (fun hc => ?_) (fun hc => ?_)
        · have h := iteT hc h
          refine AWP.region (.cons (.move (lt1 rfl) (.tmp rfl)) <| .cons (.assign (lt1 rfl) (.tmp rfl)) <| ARun.nil _ _ _) ?_
          exact endJ t10_23 h (VC.sub (.c rfl <| .c rfl <| .c rfl <| .c rfl <| .c rfl <| .c rfl <| .n _) (.n _))
        · have h := iteF hc h
          refine AWP.skip ?_
          exact endJ x_18.1 h (VC.sub (.c rfl <| .c rfl <| .c rfl <| .c rfl <| .c rfl <| .c rfl <| .n _) (.n _))
    · have h := iteF hc h
      refine AWP.exit ?_
      exact endJ x_18.1 h (VC.sub (.c rfl <| .c rfl <| .n _) (.n _))
theorem c16 {β1 : Bool} {β2 : Bool} (n : Nat) (a0 : (List R38)) (a1 : (List Int)) (a2 : Bool) {r : Int} (h : m16 n a0 a1 a2 = some r) : Spec Try.prog 16 [] [.rd β1 a0.length (a0.flatMap encR38), .rd β2 a1.length (a1.flatMap (encI .i64)), .sc (.bool a2)] [] (.sc (.int .i64 r)) [] := by
  refine Spec.of (fn := Try.f16) Try.func16 Try.ntmps16 rfl rfl (le1 rfl) (fun w0 Zs Zb T0 ι0 => ?_)
  unfold m16 at h
  refine AWP.seq ?_
  refine AWP.region (.cons (.assign (lt1 rfl) (.const _ _ _)) <| ARun.nil _ _ _) ?_
  refine AWP.vc (s' := ⟨[(0, .rd β1 a0.length (a0.flatMap encR38)), (1, .rd β2 a1.length (a1.flatMap (encI .i64))), (2, .sc (.bool a2))], []⟩) (VC.sub (.c rfl <| .c rfl <| .c rfl <| .n _) (.n _)) ?_
  refine AWP.seq ?_
  obtain ⟨y_1, hy_1, h⟩ := bindS h
  refine AWP.region (.cons (.move (lt1 rfl) (.tmp rfl)) <| .cons (.move (lt1 rfl) (.tmp rfl)) <| .cons (.call0 (bw := false) (lt1 rfl) (c27 (β1 := β1) (β2 := β2) n a0 a1 hy_1) (.cons (.tmp rfl) (.ren rfl) (.cons (.tmp rfl) (.ren rfl) (.nil))) rfl) <| .cons (.move (lt1 rfl) (.tmp rfl)) <| .cons (.extract (lt1 rfl) (.tmp rfl) rfl) <| .cons (.extract (lt1 rfl) (.tmp rfl) rfl) <| .cons (.assign (lt1 rfl) (.tmp rfl)) <| .cons (.assign (lt1 rfl) (.tmp rfl)) <| ARun.nil _ _ _) ?_
  refine AWP.vc (s' := ⟨[(0, .rd β1 a0.length (a0.flatMap encR38)), (1, .rd β2 a1.length (a1.flatMap (encI .i64))), (2, .sc (.bool a2)), (7, .sc (.int .i64 y_1.1))], []⟩) (VC.sub (.c rfl <| .c rfl <| .c rfl <| .c rfl <| .n _) (.n _)) ?_
  refine AWP.seq ?_
  refine AWP.seq ?_
  refine AWP.region (.cons (.move (lt1 rfl) (.tmp rfl)) <| ARun.nil _ _ _) ?_
  refine AWP.vc (s' := ⟨[(0, .rd β1 a0.length (a0.flatMap encR38)), (1, .rd β2 a1.length (a1.flatMap (encI .i64))), (7, .sc (.int .i64 y_1.1)), (15, .sc (.bool a2))], []⟩) (VC.sub (.c rfl <| .c rfl <| .c rfl <| .c rfl <| .n _) (.n _)) ?_
  refine AWP.join' (S := fun p_3 : Int => ⟨[(7, .sc (.int .i64 p_3))], []⟩) h (fun p_3 h => ?_) (fun k_4 h => ?_)
  · refine AWP.seq ?_
    refine AWP.region (.cons (.move (lt1 rfl) (.tmp rfl)) <| .cons (.assign (lt1 rfl) (.tmp rfl)) <| ARun.nil _ _ _) ?_
    refine AWP.ret ?_
    obtain rfl := Option.some.inj h
    refine retJ (Res.vc (s' := ⟨[(6, .sc (.int .i64 p_3))], []⟩) (VC.sub (.c rfl <| .n _) (.n _)) ?_)
    refine Res.drop (H := []) rfl ?_
    exact Res.of rfl (.cons (.tmp rfl) (.nil)) rfl rfl
  · refine AWP.cond (.tmp rfl) (fun hc => ?_) (fun hc => ?_)
    · have h := iteT hc h
      obtain ⟨y_2, hy_2, h⟩ := bindS h
      refine AWP.region (.cons (.move (lt1 rfl) (.tmp rfl)) <| .cons (.move (lt1 rfl) (.tmp rfl)) <| .cons (.call0 (bw := false) (lt1 rfl) (c25 (β1 := β1) (β2 := β2) n a0 a1 hy_2) (.cons (.tmp rfl) (.ren rfl) (.cons (.tmp rfl) (.ren rfl) (.nil))) rfl) <| .cons (.move (lt1 rfl) (.tmp rfl)) <| .cons (.extract (lt1 rfl) (.tmp rfl) rfl) <| .cons (.extract (lt1 rfl) (.tmp rfl) rfl) <| .cons (.assign (lt1 rfl) (.tmp rfl)) <| ARun.nil _ _ _) ?_
      exact endJ y_2.1 h (VC.sub (.c rfl <| .n _) (.n _))
    · have h := iteF hc h
      refine AWP.skip ?_
      exact endJ y_1.1 h (VC.sub (.c rfl <| .n _) (.n _))
theorem c17 {β1 : Bool} {β2 : Bool} {β3 : Bool} (n : Nat) (a0 : (List R38)) (a1 : (List Int)) (a2 : (List UInt8)) {r : (List Int)} (h : m17 n a0 a1 a2 = some r) : Spec Try.prog 17 [] [.rd β1 a0.length (a0.flatMap encR38), .rd β2 a1.length (a1.flatMap (encI .i64)), .rd β3 a2.length (a2.flatMap enc8)] [] (.rd false r.length (r.flatMap (encI .i64))) [] := by
  refine Spec.of (fn := Try.f17) Try.func17 Try.ntmps17 rfl rfl (le1 rfl) (fun w0 Zs Zb T0 ι0 => ?_)
  unfold m17 at h
  refine AWP.seq ?_
  refine AWP.region (.cons (.assign (lt1 rfl) (.const _ _ _)) <| ARun.nil _ _ _) ?_
  refine AWP.vc (s' := ⟨[(0, .rd β1 a0.length (a0.flatMap encR38)), (1, .rd β2 a1.length (a1.flatMap (encI .i64))), (2, .rd β3 a2.length (a2.flatMap enc8))], []⟩) (VC.sub (.c rfl <| .c rfl <| .c rfl <| .n _) (.n _)) ?_
  refine AWP.seq ?_
  obtain ⟨l1_1, hl1_1, h⟩ := bindS h
  refine AWP.region (.cons (.buildSlice (t := 1) (out := ([] : List Int).flatMap (encI .i64)) (lt1 rfl) (nm rfl) (.nil) Try.underlying26 zero3 el3 (by decide) (by decide) rfl (still_all (encI_still .i64) _)) <| .cons (.move (lt1 rfl) (.tmp rfl)) <| .cons (.app (enc := (encI .i64)) (lt1 rfl) (nm rfl) (.tmp rfl) (Src.rd (.tmp rfl) (flatMap_length (encI_len .i64) _) (one_all (encI_one .i64) _) (.inr (scal_all (encI_scal .i64) _))) Try.underlying26 ⟨_, Try.underlying26, by intro k hk; cases hk⟩ el3 rfl (encI_len .i64) rfl rfl (by decide) hl1_1) <| .cons (.assign (lt1 rfl) (.tmp rfl)) <| ARun.nil _ _ _) ?_
  refine AWP.vc (s' := ⟨[(0, .rd β1 a0.length (a0.flatMap encR38)), (2, .rd β3 a2.length (a2.flatMap enc8)), (7, .own 1 1 0 l1_1.length)], [(1, ⟨3, true, l1_1.flatMap (encI .i64)⟩)]⟩) (VC.sub (.c rfl <| .c rfl <| .c rfl <| .n _) (.c rfl <| .n _)) ?_
  refine AWP.seq ?_
  refine AWP.seq ?_
  refine AWP.region (.cons (.assign (lt1 rfl) (.const _ _ _)) <| ARun.nil _ _ _) ?_
  refine AWP.vc (s' := ⟨[(0, .rd β1 a0.length (a0.flatMap encR38)), (2, .rd β3 a2.length (a2.flatMap enc8)), (7, .own 1 1 0 l1_1.length), (8, .sc (.int .i64 (0 : Int)))], [(1, ⟨3, true, l1_1.flatMap (encI .i64)⟩)]⟩) (VC.sub (.c rfl <| .c rfl <| .c rfl <| .c rfl <| .n _) (.c rfl <| .n _)) ?_
  refine AWP.joinB' (S := fun p_183 : (List Int) => ⟨[(7, .own 1 1 0 p_183.length)], [(1, ⟨3, true, p_183.flatMap (encI .i64)⟩)]⟩) h (fun p_183 h => ?_) (fun k_184 h => ?_)
  · refine AWP.seq ?_
    refine AWP.region (.cons (.move (lt1 rfl) (.tmp rfl)) <| .cons (.assign (lt1 rfl) (.tmp rfl)) <| ARun.nil _ _ _) ?_
    refine AWP.ret ?_
    obtain rfl := Option.some.inj h
    refine retJ (Res.vc (s' := ⟨[(6, .rd false p_183.length (p_183.flatMap (encI .i64)))], []⟩) (VC.trans (VC.frz (d := 6) (t := 1) rfl rfl (encI_len .i64)) (VC.sub (.c rfl <| .n _) (.n _))) ?_)
    refine Res.drop (H := []) rfl ?_
    exact Res.of rfl (.cons (.tmp rfl) (.nil)) rfl rfl
  · refine AWP.vc (s' := ⟨[(0, .rd β1 a0.length (a0.flatMap encR38)), (2, .rd β3 a2.length (a2.flatMap enc8)), (7, .own 1 1 0 l1_1.length), (8, .sc (.int .i64 (0 : Int)))], [(1, ⟨3, true, l1_1.flatMap (encI .i64)⟩)]⟩) (VC.sub (.c rfl <| .c rfl <| .c rfl <| .c rfl <| .n _) (.c rfl <| .n _)) ?_
    refine AWP.loopM (S := fun x_122 : Int × (List Int) => ⟨[(0, .rd β1 a0.length (a0.flatMap encR38)), (2, .rd β3 a2.length (a2.flatMap enc8)), (7, .own 1 1 0 x_122.2.length), (8, .sc (.int .i64 x_122.1))], [(1, ⟨3, true, x_122.2.flatMap (encI .i64)⟩)]⟩) (x := ((0 : Int), l1_1)) (fun nx_123 x_122 h => ?_) h
    unfold m17_L9 at h
    refine AWP.seq ?_
    refine AWP.seq ?_
    refine AWP.region (.cons (.move (lt1 rfl) (.tmp rfl)) <| .cons (.lenOwn (lt1 rfl) (.tmp rfl) Try.underlying26) <| .cons (.move (lt1 rfl) (.tmp rfl)) <| .cons (.lenRd (lt1 rfl) (.tmp rfl) Try.underlying22) <| .cons (.lss (lt1 rfl) (.tmp rfl) (.tmp rfl)) <| ARun.nil _ _ _) ?_
    refine AWP.vc (s' := ⟨[(0, .rd β1 a0.length (a0.flatMap encR38)), (2, .rd β3 a2.length (a2.flatMap enc8)), (7, .own 1 1 0 x_122.2.length), (8, .sc (.int .i64 x_122.1)), (22, .sc (.bool (decide ((x_122.2.length : Int) < (a0.length : Int)))))], [(1, ⟨3, true, x_122.2.flatMap (encI .i64)⟩)]⟩) (VC.sub (.c rfl <| .c rfl <| .c rfl <| .c rfl <| .c rfl <| .n _) (.c rfl <| .n _)) ?_
    refine AWP.cond (.tmp rfl) (fun hc => ?_) (fun hc => ?_)
    · have h := iteT hc h
      refine AWP.skip ?_
      refine AWP.seq ?_
      refine AWP.block ?_
      refine AWP.seq ?_
      refine AWP.region (.cons (.assign (lt1 rfl) (.const _ _ _)) <| ARun.nil _ _ _) ?_
      refine AWP.vc (s' := ⟨[(0, .rd β1 a0.length (a0.flatMap encR38)), (2, .rd β3 a2.length (a2.flatMap enc8)), (7, .own 1 1 0 x_122.2.length), (8, .sc (.int .i64 x_122.1)), (9, .sc (.int .i64 (0 : Int)))], [(1, ⟨3, true, x_122.2.flatMap (encI .i64)⟩)]⟩) (VC.sub (.c rfl <| .c rfl <| .c rfl <| .c rfl <| .c rfl <| .n _) (.c rfl <| .n _)) ?_
      refine AWP.seq ?_
      refine AWP.seq ?_
      refine AWP.region (.cons (.move (lt1 rfl) (.tmp rfl)) <| .cons (.move (lt1 rfl) (.tmp rfl)) <| .cons (.lenRd (lt1 rfl) (.tmp rfl) Try.underlying23) <| .cons (.lss (lt1 rfl) (.tmp rfl) (.tmp rfl)) <| ARun.nil _ _ _) ?_
      refine AWP.vc (s' := ⟨[(0, .rd β1 a0.length (a0.flatMap encR38)), (2, .rd β3 a2.length (a2.flatMap enc8)), (7, .own 1 1 0 x_122.2.length), (8, .sc (.int .i64 x_122.1)), (9, .sc (.int .i64 (0 : Int))), (28, .sc (.bool (decide (x_122.1 < (a2.length : Int)))))], [(1, ⟨3, true, x_122.2.flatMap (encI .i64)⟩)]⟩) (VC.sub (.c rfl <| .c rfl <| .c rfl <| .c rfl <| .c rfl <| .c rfl <| .n _) (.c rfl <| .n _)) ?_
      refine AWP.join' (S := fun p_126 : Int => ⟨[(0, .rd β1 a0.length (a0.flatMap encR38)), (2, .rd β3 a2.length (a2.flatMap enc8)), (7, .own 1 1 0 x_122.2.length), (8, .sc (.int .i64 x_122.1)), (9, .sc (.int .i64 p_126))], [(1, ⟨3, true, x_122.2.flatMap (encI .i64)⟩)]⟩) h (fun p_126 h => ?_) (fun k_127 h => ?_)
      · refine AWP.seq ?_
        refine AWP.region (.cons (.assign (lt1 rfl) (.const _ _ _)) <| ARun.nil _ _ _) ?_
        refine AWP.vc (s' := ⟨[(0, .rd β1 a0.length (a0.flatMap encR38)), (2, .rd β3 a2.length (a2.flatMap enc8)), (7, .own 1 1 0 x_122.2.length), (8, .sc (.int .i64 x_122.1)), (9, .sc (.int .i64 p_126)), (10, .sc (.int .i64 (0 : Int)))], [(1, ⟨3, true, x_122.2.flatMap (encI .i64)⟩)]⟩) (VC.sub (.c rfl <| .c rfl <| .c rfl <| .c rfl <| .c rfl <| .c rfl <| .n _) (.c rfl <| .n _)) ?_
        refine AWP.joinB' (S := fun p_180 : (List Int) => ⟨[(0, .rd β1 a0.length (a0.flatMap encR38)), (2, .rd β3 a2.length (a2.flatMap enc8)), (7, .own 1 1 0 p_180.length), (8, .sc (.int .i64 x_122.1))], [(1, ⟨3, true, p_180.flatMap (encI .i64)⟩)]⟩) h (fun p_180 h => ?_) (fun k_181 h => ?_)
        · obtain ⟨t8_182, ht8_182, h⟩ := letS h
          refine AWP.region (.cons (.move (lt1 rfl) (.tmp rfl)) <| .cons (.add (lt1 rfl) (.tmp rfl) (.const _ _ _)) <| .cons (.assign (lt1 rfl) (.tmp rfl)) <| ARun.nil _ _ _) ?_
          exact endJ (t8_182, p_180) h (by subst ht8_182; exact VC.sub (.c rfl <| .c rfl <| .c rfl <| .c rfl <| .n _) (.c rfl <| .n _))
        · refine AWP.vc (s' := ⟨[(0, .rd β1 a0.length (a0.flatMap encR38)), (2, .rd β3 a2.length (a2.flatMap enc8)), (7, .own 1 1 0 x_122.2.length), (8, .sc (.int .i64 x_122.1)), (9, .sc (.int .i64 p_126)), (10, .sc (.int .i64 (0 : Int)))], [(1, ⟨3, true, x_122.2.flatMap (encI .i64)⟩)]⟩) (VC.sub (.c rfl <| .c rfl <| .c rfl <| .c rfl <| .c rfl <| .c rfl <| .n _) (.c rfl <| .n _)) ?_
          refine AWP.loopM (S := fun x_162 : Int => ⟨[(0, .rd β1 a0.length (a0.flatMap encR38)), (2, .rd β3 a2.length (a2.flatMap enc8)), (7, .own 1 1 0 x_122.2.length), (8, .sc (.int .i64 x_122.1)), (9, .sc (.int .i64 p_126)), (10, .sc (.int .i64 x_162))], [(1, ⟨3, true, x_122.2.flatMap (encI .i64)⟩)]⟩) (x := (0 : Int)) (fun nx_163 x_162 h => ?_) h
          unfold m17_L12 at h
          refine AWP.seq ?_
          refine AWP.seq ?_
          refine AWP.region (.cons (.move (lt1 rfl) (.tmp rfl)) <| .cons (.move (lt1 rfl) (.tmp rfl)) <| .cons (.lenRd (lt1 rfl) (.tmp rfl) Try.underlying22) <| .cons (.lss (lt1 rfl) (.tmp rfl) (.tmp rfl)) <| ARun.nil _ _ _) ?_
          refine AWP.vc (s' := ⟨[(0, .rd β1 a0.length (a0.flatMap encR38)), (2, .rd β3 a2.length (a2.flatMap enc8)), (7, .own 1 1 0 x_122.2.length), (8, .sc (.int .i64 x_122.1)), (9, .sc (.int .i64 p_126)), (10, .sc (.int .i64 x_162)), (37, .sc (.bool (decide (x_162 < (a0.length : Int)))))], [(1, ⟨3, true, x_122.2.flatMap (encI .i64)⟩)]⟩) (VC.sub (.c rfl <| .c rfl <| .c rfl <| .c rfl <| .c rfl <| .c rfl <| .c rfl <| .n _) (.c rfl <| .n _)) ?_
          refine AWP.cond (.tmp rfl) (fun hc => ?_) (fun hc => ?_)
          · have h := iteT hc h
            refine AWP.skip ?_
            refine AWP.seq ?_
            refine AWP.block ?_
            refine AWP.seq ?_
            obtain ⟨ha_164, h⟩ := asrtS h
            obtain ⟨t11_165, ht11_165, h⟩ := letS h
            refine AWP.region (.cons (.move (lt1 rfl) (.tmp rfl)) <| .cons (.move (lt1 rfl) (.tmp rfl)) <| .cons (.add (lt1 rfl) (.tmp rfl) (.tmp rfl)) <| .cons (.move (lt1 rfl) (.tmp rfl)) <| .cons (.lenRd (lt1 rfl) (.tmp rfl) Try.underlying22) <| .cons (.rem (lt1 rfl) (.tmp rfl) (.tmp rfl) ha_164) <| .cons (.assign (lt1 rfl) (.tmp rfl)) <| .cons (.assign (lt1 rfl) (.const _ _ _)) <| ARun.nil _ _ _) ?_
            refine AWP.vc (s' := ⟨[(0, .rd β1 a0.length (a0.flatMap encR38)), (2, .rd β3 a2.length (a2.flatMap enc8)), (7, .own 1 1 0 x_122.2.length), (8, .sc (.int .i64 x_122.1)), (9, .sc (.int .i64 p_126)), (10, .sc (.int .i64 x_162)), (11, .sc (.int .i64 t11_165)), (12, .sc (.bool true))], [(1, ⟨3, true, x_122.2.flatMap (encI .i64)⟩)]⟩) (by subst ht11_165; exact VC.sub (.c rfl <| .c rfl <| .c rfl <| .c rfl <| .c rfl <| .c rfl <| .c rfl <| .c rfl <| .n _) (.c rfl <| .n _)) ?_
            refine AWP.seq ?_
            refine AWP.seq ?_
            refine AWP.region (.cons (.move (lt1 rfl) (.tmp rfl)) <| .cons (.lenOwn (lt1 rfl) (.tmp rfl) Try.underlying26) <| .cons (.move (lt1 rfl) (.const _ _ _)) <| ARun.nil _ _ _) ?_
            refine AWP.vc (s' := ⟨[(0, .rd β1 a0.length (a0.flatMap encR38)), (2, .rd β3 a2.length (a2.flatMap enc8)), (7, .own 1 1 0 x_122.2.length), (8, .sc (.int .i64 x_122.1)), (9, .sc (.int .i64 p_126)), (10, .sc (.int .i64 x_162)), (11, .sc (.int .i64 t11_165)), (12, .sc (.bool true)), (46, .own 1 1 0 x_122.2.length), (47, .sc (.int .i64 (x_122.2.length : Int))), (48, .sc (.int .i64 (0 : Int)))], [(1, ⟨3, true, x_122.2.flatMap (encI .i64)⟩)]⟩) (VC.sub (.c rfl <| .c rfl <| .c rfl <| .c rfl <| .c rfl <| .c rfl <| .c rfl <| .c rfl <| .c rfl <| .c rfl <| .c rfl <| .n _) (.c rfl <| .n _)) ?_
            refine AWP.joinB' (S := fun p_176 : Bool => ⟨[(0, .rd β1 a0.length (a0.flatMap encR38)), (2, .rd β3 a2.length (a2.flatMap enc8)), (7, .own 1 1 0 x_122.2.length), (8, .sc (.int .i64 x_122.1)), (9, .sc (.int .i64 p_126)), (10, .sc (.int .i64 x_162)), (11, .sc (.int .i64 t11_165)), (12, .sc (.bool p_176))], [(1, ⟨3, true, x_122.2.flatMap (encI .i64)⟩)]⟩) h (fun p_176 h => ?_) (fun k_177 h => ?_)
            · refine AWP.seq ?_
              refine AWP.region (.cons (.move (lt1 rfl) (.tmp rfl)) <| ARun.nil _ _ _) ?_
              refine AWP.vc (s' := ⟨[(0, .rd β1 a0.length (a0.flatMap encR38)), (2, .rd β3 a2.length (a2.flatMap enc8)), (7, .own 1 1 0 x_122.2.length), (8, .sc (.int .i64 x_122.1)), (9, .sc (.int .i64 p_126)), (10, .sc (.int .i64 x_162)), (11, .sc (.int .i64 t11_165)), (59, .sc (.bool p_176))], [(1, ⟨3, true, x_122.2.flatMap (encI .i64)⟩)]⟩) (VC.sub (.c rfl <| .c rfl <| .c rfl <| .c rfl <| .c rfl <| .c rfl <| .c rfl <| .c rfl <| .n _) (.c rfl <| .n _)) ?_
              refine AWP.cond (.tmp rfl) (fun hc => ?_) (fun hc => ?_)
              · have h := iteT hc h
                refine AWP.seq ?_
                obtain ⟨l1_178, hl1_178, h⟩ := bindS h
                refine AWP.region (.cons (.move (lt1 rfl) (.tmp rfl)) <| .cons (.move (lt1 rfl) (.tmp rfl)) <| .cons (.buildSlice (t := 2) (out := ([t11_165] : List Int).flatMap (encI .i64)) (lt1 rfl) (nm rfl) (.cons (.tmp rfl) (by first | exact ⟨rfl, rfl⟩ | rfl) (.nil)) Try.underlying26 zero3 el3 (by decide) (by decide) rfl (still_all (encI_still .i64) _)) <| .cons (.app (enc := (encI .i64)) (lt1 rfl) (nm rfl) (.tmp rfl) (Src.own (.tmp rfl) rfl (lendAll (encI_len .i64) _) (flatMap_length (encI_len .i64) _) (one_all (encI_one .i64) _) (.inl rfl)) Try.underlying26 ⟨_, Try.underlying26, by intro k hk; cases hk⟩ el3 rfl (encI_len .i64) rfl rfl (by decide) hl1_178) <| .cons (.assign (lt1 rfl) (.tmp rfl)) <| ARun.nil _ _ _) ?_
                refine AWP.exit ?_
                exact endJ l1_178 h (VC.sub (.c rfl <| .c rfl <| .c rfl <| .c rfl <| .n _) (.c rfl <| .n _))
              · have h := iteF hc h
                refine AWP.skip ?_
                obtain ⟨t10_179, ht10_179, h⟩ := letS h
                refine AWP.region (.cons (.move (lt1 rfl) (.tmp rfl)) <| .cons (.add (lt1 rfl) (.tmp rfl) (.const _ _ _)) <| .cons (.assign (lt1 rfl) (.tmp rfl)) <| ARun.nil _ _ _) ?_
                exact endJ t10_179 h (by subst ht10_179; exact VC.sub (.c rfl <| .c rfl <| .c rfl <| .c rfl <| .c rfl <| .c rfl <| .n _) (.c rfl <| .n _))
            · refine AWP.vc (s' := ⟨[(0, .rd β1 a0.length (a0.flatMap encR38)), (2, .rd β3 a2.length (a2.flatMap enc8)), (7, .own 1 1 0 x_122.2.length), (8, .sc (.int .i64 x_122.1)), (9, .sc (.int .i64 p_126)), (10, .sc (.int .i64 x_162)), (11, .sc (.int .i64 t11_165)), (12, .sc (.bool true)), (46, .own 1 1 0 x_122.2.length), (47, .sc (.int .i64 (x_122.2.length : Int))), (48, .sc (.int .i64 (0 : Int)))], [(1, ⟨3, true, x_122.2.flatMap (encI .i64)⟩)]⟩) (VC.sub (.c rfl <| .c rfl <| .c rfl <| .c rfl <| .c rfl <| .c rfl <| .c rfl <| .c rfl <| .c rfl <| .c rfl <| .c rfl <| .n _) (.c rfl <| .n _)) ?_
              refine AWP.loopM (S := fun x_172 : Bool × Int => ⟨[(0, .rd β1 a0.length (a0.flatMap encR38)), (2, .rd β3 a2.length (a2.flatMap enc8)), (7, .own 1 1 0 x_122.2.length), (8, .sc (.int .i64 x_122.1)), (9, .sc (.int .i64 p_126)), (10, .sc (.int .i64 x_162)), (11, .sc (.int .i64 t11_165)), (12, .sc (.bool x_172.1)), (46, .own 1 1 0 x_122.2.length), (47, .sc (.int .i64 (x_122.2.length : Int))), (48, .sc (.int .i64 x_172.2))], [(1, ⟨3, true, x_122.2.flatMap (encI .i64)⟩)]⟩) (x := (true, (0 : Int))) (fun nx_173 x_172 h => ?_) h
              unfold m17_L13 at h
              refine AWP.seq ?_
              refine AWP.region (.cons (.lss (lt1 rfl) (.tmp rfl) (.tmp rfl)) <| ARun.nil _ _ _) ?_
              refine AWP.vc (s' := ⟨[(0, .rd β1 a0.length (a0.flatMap encR38)), (2, .rd β3 a2.length (a2.flatMap enc8)), (7, .own 1 1 0 x_122.2.length), (8, .sc (.int .i64 x_122.1)), (9, .sc (.int .i64 p_126)), (10, .sc (.int .i64 x_162)), (11, .sc (.int .i64 t11_165)), (12, .sc (.bool x_172.1)), (46, .own 1 1 0 x_122.2.length), (47, .sc (.int .i64 (x_122.2.length : Int))), (48, .sc (.int .i64 x_172.2)), (49, .sc (.bool (decide (x_172.2 < (x_122.2.length : Int)))))], [(1, ⟨3, true, x_122.2.flatMap (encI .i64)⟩)]⟩) (VC.sub (.c rfl <| .c rfl <| .c rfl <| .c rfl <| .c rfl <| .c rfl <| .c rfl <| .c rfl <| .c rfl <| .c rfl <| .c rfl <| .c rfl <| .n _) (.c rfl <| .n _)) ?_
              refine AWP.seq ?_
              refine AWP.cond (.tmp rfl) (fun hc => ?_) (fun hc => ?_)
              · have h := iteT hc h
                refine AWP.skip ?_
                refine AWP.seq ?_
                refine AWP.block ?_
                refine AWP.seq ?_
                obtain ⟨y_174, hy_174, h⟩ := bindS h
                refine AWP.region (.cons (.idxOwn (lt1 rfl) (.tmp rfl) (.tmp rfl) Try.underlying26 sz3 rfl hy_174) <| .cons (.loadP (lt1 rfl) (.tmp rfl) one3 rfl (cell_at1 (encI_len .i64) hy_174) rfl) <| .cons (.assign (lt1 rfl) (.tmp rfl)) <| ARun.nil _ _ _) ?_
                refine AWP.vc (s' := ⟨[(0, .rd β1 a0.length (a0.flatMap encR38)), (2, .rd β3 a2.length (a2.flatMap enc8)), (7, .own 1 1 0 x_122.2.length), (8, .sc (.int .i64 x_122.1)), (9, .sc (.int .i64 p_126)), (10, .sc (.int .i64 x_162)), (11, .sc (.int .i64 t11_165)), (12, .sc (.bool x_172.1)), (46, .own 1 1 0 x_122.2.length), (47, .sc (.int .i64 (x_122.2.length : Int))), (48, .sc (.int .i64 x_172.2)), (14, .sc (.int .i64 y_174))], [(1, ⟨3, true, x_122.2.flatMap (encI .i64)⟩)]⟩) (VC.sub (.c rfl <| .c rfl <| .c rfl <| .c rfl <| .c rfl <| .c rfl <| .c rfl <| .c rfl <| .c rfl <| .c rfl <| .c rfl <| .c rfl <| .n _) (.c rfl <| .n _)) ?_
                refine AWP.region (.cons (.move (lt1 rfl) (.tmp rfl)) <| .cons (.move (lt1 rfl) (.tmp rfl)) <| .guard (j := 1) (dj := 53) rfl (lt1 rfl) rfl (lt1 rfl) (fun hg => .move (lt1 rfl) (.tmp rfl)) <| .guard (j := 1) (dj := 53) rfl (lt1 rfl) rfl (lt1 rfl) (fun hg => .move (lt1 rfl) (.tmp rfl)) <| .guard (j := 1) (dj := 53) rfl (lt1 rfl) rfl (lt1 rfl) (fun hg => .neq (lt1 rfl) (.gd hg (.tmp rfl)) (.gd hg (.tmp rfl))) <| .cons (.pickAnd (lt1 rfl) (.tmp rfl) (.tmp rfl) (.const _ _ _)) <| .cons (.assign (lt1 rfl) (.tmp rfl)) <| ARun.nil _ _ _) ?_
                refine AWP.vc (s' := ⟨[(0, .rd β1 a0.length (a0.flatMap encR38)), (2, .rd β3 a2.length (a2.flatMap enc8)), (7, .own 1 1 0 x_122.2.length), (8, .sc (.int .i64 x_122.1)), (9, .sc (.int .i64 p_126)), (10, .sc (.int .i64 x_162)), (11, .sc (.int .i64 t11_165)), (12, .sc (.bool (x_172.1 && (!decide (y_174 = t11_165))))), (46, .own 1 1 0 x_122.2.length), (47, .sc (.int .i64 (x_122.2.length : Int))), (48, .sc (.int .i64 x_172.2))], [(1, ⟨3, true, x_122.2.flatMap (encI .i64)⟩)]⟩) (VC.sub (.c rfl <| .c rfl <| .c rfl <| .c rfl <| .c rfl <| .c rfl <| .c rfl <| .c rfl <| .c rfl <| .c rfl <| .c rfl <| .n _) (.c rfl <| .n _)) ?_
                obtain ⟨t48_175, ht48_175, h⟩ := letS h
                refine AWP.region (.cons (.add (lt1 rfl) (.tmp rfl) (.const _ _ _)) <| .cons (.move (lt1 rfl) (.tmp rfl)) <| ARun.nil _ _ _) ?_
                exact endJ ((x_172.1 && (!decide (y_174 = t11_165))), t48_175) h (by subst ht48_175; exact VC.sub (.c rfl <| .c rfl <| .c rfl <| .c rfl <| .c rfl <| .c rfl <| .c rfl <| .c rfl <| .c rfl <| .c rfl <| .c rfl <| .n _) (.c rfl <| .n _))
              · have h := iteF hc h
                refine AWP.exit ?_
                exact endJ x_172.1 h (VC.sub (.c rfl <| .c rfl <| .c rfl <| .c rfl <| .c rfl <| .c rfl <| .c rfl <| .c rfl <| .n _) (.c rfl <| .n _))
          · have h := iteF hc h
            refine AWP.exit ?_
            exact endJ x_122.2 h (VC.sub (.c rfl <| .c rfl <| .c rfl <| .c rfl <| .n _) (.c rfl <| .n _))
      · refine AWP.cond (.tmp rfl) (fun hc => ?_) (fun hc => ?_)
        · have h := iteT hc h
          obtain ⟨y_124, hy_124, h⟩ := bindS h
          obtain ⟨t9_125, ht9_125, h⟩ := letS h
          refine AWP.region (.cons (.move (lt1 rfl) (.tmp rfl)) <| .cons (.move (lt1 rfl) (.tmp rfl)) <| .cons (.indexRd (enc := enc8) (lt1 rfl) (.tmp rfl) (.tmp rfl) Try.underlying23 sz5 enc8_len rfl hy_124) <| .cons (.loadR (v := .sc (.int .u8 (y_124.toNat : Int))) (lt1 rfl) (.tmp rfl) one5 rfl) <| .cons (.conv (lt1 rfl) (.tmp rfl) Try.underlying5 Try.underlying3) <| .cons (.assign (lt1 rfl) (.tmp rfl)) <| ARun.nil _ _ _) ?_
          exact endJ t9_125 h (by subst ht9_125; exact VC.sub (.c rfl <| .c rfl <| .c rfl <| .c rfl <| .c rfl <| .n _) (.c rfl <| .n _))
        · have h := iteF hc h
          refine AWP.skip ?_
          exact endJ (0 : Int) h (VC.sub (.c rfl <| .c rfl <| .c rfl <| .c rfl <| .c rfl <| .n _) (.c rfl <| .n _))
    · have h := iteF hc h
      refine AWP.exit ?_
      exact endJ x_122.2 h (VC.sub (.c rfl <| .n _) (.c rfl <| .n _))
theorem c42F (n : Nat) : ∀ (f : Nat) {β1 : Bool} {β2 : Bool} {β3 : Bool} (a0 : (List R38)) (a1 : (List Int)) (a2 : (List Int)) (a3 : Bool) {r : (List Int)}, m42F n f a0 a1 a2 a3 = some r → Spec Try.prog 42 [] [.rd β1 a0.length (a0.flatMap encR38), .rd β2 a1.length (a1.flatMap (encI .i64)), .rd β3 a2.length (a2.flatMap (encI .i64)), .sc (.bool a3)] [] (.rd β3 r.length (r.flatMap (encI .i64))) [] := by
  intro f
  induction f with
  | zero =>
    intro β1 β2 β3 a0 a1 a2 a3 r h
    cases (show (none : Option (List Int)) = some r from h)
  | succ f ih =>
  intro β1 β2 β3 a0 a1 a2 a3 r h
  replace h : m42B n (m42F n f) a0 a1 a2 a3 = some r := h
  generalize m42F n f = rc_0 at h ih
  refine Spec.of (fn := Try.f42) Try.func42 Try.ntmps42 rfl rfl (le1 rfl) (fun w0 Zs Zb T0 ι0 => ?_)
  unfold m42B at h
  refine AWP.seq ?_
  refine AWP.region (.cons (.assign (lt1 rfl) (.const _ _ _)) <| ARun.nil _ _ _) ?_
  refine AWP.vc (s' := ⟨[(0, .rd β1 a0.length (a0.flatMap encR38)), (1, .rd β2 a1.length (a1.flatMap (encI .i64))), (2, .rd β3 a2.length (a2.flatMap (encI .i64))), (3, .sc (.bool a3))], []⟩) (VC.sub (.c rfl <| .c rfl <| .c rfl <| .c rfl <| .n _) (.n _)) ?_
  refine AWP.seq ?_
  refine AWP.seq ?_
  refine AWP.region (.cons (.move (lt1 rfl) (.tmp rfl)) <| .cons (.lenRd (lt1 rfl) (.tmp rfl) Try.underlying26) <| .cons (.move (lt1 rfl) (.tmp rfl)) <| .cons (.lenRd (lt1 rfl) (.tmp rfl) Try.underlying22) <| .cons (.eql (lt1 rfl) (.tmp rfl) (.tmp rfl)) <| ARun.nil _ _ _) ?_
  refine AWP.vc (s' := ⟨[(0, .rd β1 a0.length (a0.flatMap encR38)), (1, .rd β2 a1.length (a1.flatMap (encI .i64))), (2, .rd β3 a2.length (a2.flatMap (encI .i64))), (3, .sc (.bool a3)), (14, .sc (.bool (decide ((a1.length : Int) = (a0.length : Int)))))], []⟩) (VC.sub (.c rfl <| .c rfl <| .c rfl <| .c rfl <| .c rfl <| .n _) (.n _)) ?_
  refine AWP.cond (.tmp rfl) (fun hc => ?_) (fun hc => ?_)
  · have h := iteT hc h
    refine AWP.seq ?_
    refine AWP.seq ?_
    obtain ⟨y_1, hy_1, h⟩ := bindS h
    obtain ⟨y_2, hy_2, h⟩ := bindS h
    refine AWP.region (.cons (.move (lt1 rfl) (.tmp rfl)) <| .cons (.lenRd (lt1 rfl) (.tmp rfl) Try.underlying26) <| .cons (.eql (lt1 rfl) (.tmp rfl) (.const _ _ _)) <| .cons (.move (lt1 rfl) (.tmp rfl)) <| .guard (j := 3) (dj := 18) rfl (lt1 rfl) rfl (lt1 rfl) (fun hg => .move (lt1 rfl) (.tmp rfl)) <| .guard (j := 3) (dj := 18) rfl (lt1 rfl) rfl (lt1 rfl) (fun hg => .move (lt1 rfl) (.tmp rfl)) <| .guard (j := 3) (dj := 18) rfl (lt1 rfl) rfl (lt1 rfl) (fun hg => .move (lt1 rfl) (.tmp rfl)) <| .guard (j := 3) (dj := 18) rfl (lt1 rfl) rfl (lt1 rfl) (fun hg => .call0 (bw := false) (lt1 rfl) (c16 (β1 := β1) (β2 := β2) n a0 a1 a3 (gdB hy_1 hg)) (.cons (.gd hg (.tmp rfl)) (.ren rfl) (.cons (.gd hg (.tmp rfl)) (.ren rfl) (.cons (.gd hg (.tmp rfl)) (.ren rfl) (.nil)))) rfl) <| .guard (j := 3) (dj := 18) rfl (lt1 rfl) rfl (lt1 rfl) (fun hg => .move (lt1 rfl) (.tmp rfl)) <| .guard (j := 3) (dj := 18) rfl (lt1 rfl) rfl (lt1 rfl) (fun hg => .move (lt1 rfl) (.tmp rfl)) <| .guard (j := 3) (dj := 18) rfl (lt1 rfl) rfl (lt1 rfl) (fun hg => .move (lt1 rfl) (.tmp rfl)) <| .guard (j := 3) (dj := 18) rfl (lt1 rfl) rfl (lt1 rfl) (fun hg => .call0 (bw := false) (lt1 rfl) (c16 (β1 := β1) (β2 := β3) n a0 a2 a3 (gdB hy_2 hg)) (.cons (.gd hg (.tmp rfl)) (.ren rfl) (.cons (.gd hg (.tmp rfl)) (.ren rfl) (.cons (.gd hg (.tmp rfl)) (.ren rfl) (.nil)))) rfl) <| .guard (j := 3) (dj := 18) rfl (lt1 rfl) rfl (lt1 rfl) (fun hg => .lss (lt1 rfl) (.gd hg (.tmp rfl)) (.gd hg (.tmp rfl))) <| .cons (.pickOr (lt1 rfl) (.tmp rfl) (.const _ _ _) (.tmp rfl)) <| ARun.nil _ _ _) ?_
    refine AWP.vc (s' := ⟨[(1, .rd β2 a1.length (a1.flatMap (encI .i64))), (2, .rd β3 a2.length (a2.flatMap (encI .i64))), (28, .sc (.bool ((decide ((a2.length : Int) = (0 : Int))) || (decide (y_1 < y_2)))))], []⟩) (VC.sub (.c rfl <| .c rfl <| .c rfl <| .n _) (.n _)) ?_
    refine AWP.cond (.tmp rfl) (fun hc => ?_) (fun hc => ?_)
    · have h := iteT hc h
      refine AWP.seq ?_
      obtain ⟨l1_3, hl1_3, h⟩ := bindS h
      refine AWP.region (.cons (.buildSlice (t := 1) (out := ([] : List Int).flatMap (encI .i64)) (lt1 rfl) (nm rfl) (.nil) Try.underlying26 zero3 el3 (by decide) (by decide) rfl (still_all (encI_still .i64) _)) <| .cons (.move (lt1 rfl) (.tmp rfl)) <| .cons (.app (enc := (encI .i64)) (lt1 rfl) (nm rfl) (.tmp rfl) (Src.rd (.tmp rfl) (flatMap_length (encI_len .i64) _) (one_all (encI_one .i64) _) (.inr (scal_all (encI_scal .i64) _))) Try.underlying26 ⟨_, Try.underlying26, by intro k hk; cases hk⟩ el3 rfl (encI_len .i64) rfl rfl (by decide) hl1_3) <| .cons (.assign (lt1 rfl) (.tmp rfl)) <| ARun.nil _ _ _) ?_
      refine AWP.ret ?_
      obtain rfl := Option.some.inj h
      refine retJ (Res.vc (s' := ⟨[(8, .rd β3 l1_3.length (l1_3.flatMap (encI .i64)))], []⟩) (VC.trans (VC.frz (d := 8) (t := 1) rfl rfl (encI_len .i64)) (VC.trans (VC.flagUp (d := 8) β3 rfl) (VC.sub (.c rfl <| .n _) (.n _)))) ?_)
      refine Res.drop (H := []) rfl ?_
      exact Res.of rfl (.cons (.tmp rfl) (.nil)) rfl rfl
    · have h := iteF hc h
      refine AWP.skip ?_
      refine AWP.seq ?_
      refine AWP.region (.cons (.move (lt1 rfl) (.tmp rfl)) <| .cons (.assign (lt1 rfl) (.tmp rfl)) <| ARun.nil _ _ _) ?_
      refine AWP.ret ?_
      obtain rfl := Option.some.inj h
      refine retJ (Res.vc (s' := ⟨[(8, .rd β3 a2.length (a2.flatMap (encI .i64)))], []⟩) (VC.sub (.c rfl <| .n _) (.n _)) ?_)
      refine Res.drop (H := []) rfl ?_
      exact Res.of rfl (.cons (.tmp rfl) (.nil)) rfl rfl
  · have h := iteF hc h
    refine AWP.skip ?_
    refine AWP.seq ?_
    refine AWP.seq ?_
    refine AWP.region (.cons (.assign (lt1 rfl) (.const _ _ _)) <| ARun.nil _ _ _) ?_
    refine AWP.vc (s' := ⟨[(0, .rd β1 a0.length (a0.flatMap encR38)), (1, .rd β2 a1.length (a1.flatMap (encI .i64))), (2, .rd β3 a2.length (a2.flatMap (encI .i64))), (3, .sc (.bool a3)), (9, .sc (.int .i64 (0 : Int)))], []⟩) (VC.sub (.c rfl <| .c rfl <| .c rfl <| .c rfl <| .c rfl <| .n _) (.n _)) ?_
    refine AWP.joinB' (S := fun p_29 : (List Int) => ⟨[(2, .rd β3 p_29.length (p_29.flatMap (encI .i64)))], []⟩) h (fun p_29 h => ?_) (fun k_30 h => ?_)
    · refine AWP.seq ?_
      refine AWP.region (.cons (.move (lt1 rfl) (.tmp rfl)) <| .cons (.assign (lt1 rfl) (.tmp rfl)) <| ARun.nil _ _ _) ?_
      refine AWP.ret ?_
      obtain rfl := Option.some.inj h
      refine retJ (Res.vc (s' := ⟨[(8, .rd β3 p_29.length (p_29.flatMap (encI .i64)))], []⟩) (VC.sub (.c rfl <| .n _) (.n _)) ?_)
      refine Res.drop (H := []) rfl ?_
      exact Res.of rfl (.cons (.tmp rfl) (.nil)) rfl rfl
    · refine AWP.vc (s' := ⟨[(0, .rd β1 a0.length (a0.flatMap encR38)), (1, .rd β2 a1.length (a1.flatMap (encI .i64))), (2, .rd β3 a2.length (a2.flatMap (encI .i64))), (3, .sc (.bool a3)), (9, .sc (.int .i64 (0 : Int)))], []⟩) (VC.sub (.c rfl <| .c rfl <| .c rfl <| .c rfl <| .c rfl <| .n _) (.n _)) ?_
      refine AWP.loopM (S := fun x_20 : (List Int) × Int => ⟨[(0, .rd β1 a0.length (a0.flatMap encR38)), (1, .rd β2 a1.length (a1.flatMap (encI .i64))), (2, .rd β3 x_20.1.length (x_20.1.flatMap (encI .i64))), (3, .sc (.bool a3)), (9, .sc (.int .i64 x_20.2))], []⟩) (x := (a2, (0 : Int))) (fun nx_21 x_20 h => ?_) h
      unfold m42_L1 at h
      refine AWP.seq ?_
      refine AWP.seq ?_
      refine AWP.region (.cons (.move (lt1 rfl) (.tmp rfl)) <| .cons (.move (lt1 rfl) (.tmp rfl)) <| .cons (.lenRd (lt1 rfl) (.tmp rfl) Try.underlying22) <| .cons (.lss (lt1 rfl) (.tmp rfl) (.tmp rfl)) <| ARun.nil _ _ _) ?_
      refine AWP.vc (s' := ⟨[(0, .rd β1 a0.length (a0.flatMap encR38)), (1, .rd β2 a1.length (a1.flatMap (encI .i64))), (2, .rd β3 x_20.1.length (x_20.1.flatMap (encI .i64))), (3, .sc (.bool a3)), (9, .sc (.int .i64 x_20.2)), (36, .sc (.bool (decide (x_20.2 < (a0.length : Int)))))], []⟩) (VC.sub (.c rfl <| .c rfl <| .c rfl <| .c rfl <| .c rfl <| .c rfl <| .n _) (.n _)) ?_
      refine AWP.cond (.tmp rfl) (fun hc => ?_) (fun hc => ?_)
      · have h := iteT hc h
        refine AWP.skip ?_
        refine AWP.seq ?_
        refine AWP.block ?_
        refine AWP.seq ?_
        obtain ⟨y_22, hy_22, h⟩ := bindS h
        refine AWP.region (.cons (.move (lt1 rfl) (.tmp rfl)) <| .cons (.move (lt1 rfl) (.tmp rfl)) <| .cons (.call0 (bw := false) (lt1 rfl) (c41 (β1 := β2) n a1 x_20.2 hy_22) (.cons (.tmp rfl) (.ren rfl) (.cons (.tmp rfl) (.ren rfl) (.nil))) rfl) <| .cons (.not (lt1 rfl) (.tmp rfl)) <| ARun.nil _ _ _) ?_
        refine AWP.vc (s' := ⟨[(0, .rd β1 a0.length (a0.flatMap encR38)), (1, .rd β2 a1.length (a1.flatMap (encI .i64))), (2, .rd β3 x_20.1.length (x_20.1.flatMap (encI .i64))), (3, .sc (.bool a3)), (9, .sc (.int .i64 x_20.2)), (42, .sc (.bool (!y_22)))], []⟩) (VC.sub (.c rfl <| .c rfl <| .c rfl <| .c rfl <| .c rfl <| .c rfl <| .n _) (.n _)) ?_
        refine AWP.join' (S := fun p_26 : (List Int) => ⟨[(0, .rd β1 a0.length (a0.flatMap encR38)), (1, .rd β2 a1.length (a1.flatMap (encI .i64))), (2, .rd β3 p_26.length (p_26.flatMap (encI .i64))), (3, .sc (.bool a3)), (9, .sc (.int .i64 x_20.2))], []⟩) h (fun p_26 h => ?_) (fun k_27 h => ?_)
        · obtain ⟨t9_28, ht9_28, h⟩ := letS h
          refine AWP.region (.cons (.move (lt1 rfl) (.tmp rfl)) <| .cons (.add (lt1 rfl) (.tmp rfl) (.const _ _ _)) <| .cons (.assign (lt1 rfl) (.tmp rfl)) <| ARun.nil _ _ _) ?_
          exact endJ (p_26, t9_28) h (by subst ht9_28; exact VC.sub (.c rfl <| .c rfl <| .c rfl <| .c rfl <| .c rfl <| .n _) (.n _))
        · refine AWP.cond (.tmp rfl) (fun hc => ?_) (fun hc => ?_)
          · have h := iteT hc h
            obtain ⟨l2_23, hl2_23, h⟩ := bindS h
            obtain ⟨l2_24, hl2_24, h⟩ := bindS h
            obtain ⟨y_25, hy_25, h⟩ := bindS h
            refine AWP.region (.cons (.move (lt1 rfl) (.tmp rfl)) <| .cons (.buildSlice (t := 2) (out := ([] : List Int).flatMap (encI .i64)) (lt1 rfl) (nm rfl) (.nil) Try.underlying26 zero3 el3 (by decide) (by decide) rfl (still_all (encI_still .i64) _)) <| .cons (.move (lt1 rfl) (.tmp rfl)) <| .cons (.app (enc := (encI .i64)) (lt1 rfl) (nm rfl) (.tmp rfl) (Src.rd (.tmp rfl) (flatMap_length (encI_len .i64) _) (one_all (encI_one .i64) _) (.inr (scal_all (encI_scal .i64) _))) Try.underlying26 ⟨_, Try.underlying26, by intro k hk; cases hk⟩ el3 rfl (encI_len .i64) rfl rfl (by decide) hl2_23) <| .cons (.move (lt1 rfl) (.tmp rfl)) <| .cons (.buildSlice (t := 3) (out := ([x_20.2] : List Int).flatMap (encI .i64)) (lt1 rfl) (nm rfl) (.cons (.tmp rfl) (by first | exact ⟨rfl, rfl⟩ | rfl) (.nil)) Try.underlying26 zero3 el3 (by decide) (by decide) rfl (still_all (encI_still .i64) _)) <| .cons (.app (enc := (encI .i64)) (lt1 rfl) (nm rfl) (.tmp rfl) (Src.own (.tmp rfl) rfl (lendAll (encI_len .i64) _) (flatMap_length (encI_len .i64) _) (one_all (encI_one .i64) _) (.inl rfl)) Try.underlying26 ⟨_, Try.underlying26, by intro k hk; cases hk⟩ el3 rfl (encI_len .i64) rfl rfl (by decide) hl2_24) <| .cons (.move (lt1 rfl) (.tmp rfl)) <| .cons (.move (lt1 rfl) (.tmp rfl)) <| .vc (VC.frz (d := 49) (t := 2) rfl rfl (encI_len .i64)) <| .cons (.call0 (bw := false) (lt1 rfl) (ih (β1 := β1) (β2 := false) (β3 := β3) a0 l2_24 x_20.1 a3 hy_25) (.cons (.tmp rfl) (.ren rfl) (.cons (.tmp rfl) (.ren rfl) (.cons (.tmp rfl) (.ren rfl) (.cons (.tmp rfl) (.ren rfl) (.nil))))) rfl) <| .cons (.assign (lt1 rfl) (.tmp rfl)) <| ARun.nil _ _ _) ?_
            exact endJ y_25 h (VC.sub (.c rfl <| .c rfl <| .c rfl <| .c rfl <| .c rfl <| .n _) (.n _))
          · have h := iteF hc h
            refine AWP.skip ?_
            exact endJ x_20.1 h (VC.sub (.c rfl <| .c rfl <| .c rfl <| .c rfl <| .c rfl <| .n _) (.n _))
      · have h := iteF hc h
        refine AWP.exit ?_
        exact endJ x_20.1 h (VC.sub (.c rfl <| .n _) (.n _))
theorem c42 (n : Nat) {β1 : Bool} {β2 : Bool} {β3 : Bool} (a0 : (List R38)) (a1 : (List Int)) (a2 : (List Int)) (a3 : Bool) {r : (List Int)} (h : m42 n a0 a1 a2 a3 = some r) : Spec Try.prog 42 [] [.rd β1 a0.length (a0.flatMap encR38), .rd β2 a1.length (a1.flatMap (encI .i64)), .rd β3 a2.length (a2.flatMap (encI .i64)), .sc (.bool a3)] [] (.rd β3 r.length (r.flatMap (encI .i64))) [] := c42F n n a0 a1 a2 a3 h
theorem c18 {β1 : Bool} (n : Nat) (a0 : (List R38)) (a1 : Bool) {r : ((List Int) × Int × Int)} (h : m18 n a0 a1 = some r) : Spec Try.prog 18 [] [.rd β1 a0.length (a0.flatMap encR38), .sc (.bool a1)] [] (.tup [.rd false r.1.length (r.1.flatMap (encI .i64)), .sc (.int .i64 r.2.1), .sc (.int .i64 r.2.2)]) [] := by
  refine Spec.of (fn := Try.f18) Try.func18 Try.ntmps18 rfl rfl (le1 rfl) (fun w0 Zs Zb T0 ι0 => ?_)
  unfold m18 at h
  refine AWP.seq ?_
  refine AWP.region (.cons (.assign (lt1 rfl) (.const _ _ _)) <| .cons (.assign (lt1 rfl) (.const _ _ _)) <| .cons (.assign (lt1 rfl) (.const _ _ _)) <| ARun.nil _ _ _) ?_
  refine AWP.vc (s' := ⟨[(0, .rd β1 a0.length (a0.flatMap encR38)), (1, .sc (.bool a1))], []⟩) (VC.sub (.c rfl <| .c rfl <| .n _) (.n _)) ?_
  refine AWP.seq ?_
  refine AWP.block ?_
  refine AWP.seq ?_
  obtain ⟨y_1, hy_1, h⟩ := bindS h
  refine AWP.region (.cons (.move (lt1 rfl) (.tmp rfl)) <| .cons (.call0 (bw := false) (lt1 rfl) (c14 (β1 := β1) n a0 hy_1) (.cons (.tmp rfl) (.ren rfl) (.nil)) rfl) <| .cons (.not (lt1 rfl) (.tmp rfl)) <| .cons (.assign (lt1 rfl) (.tmp rfl)) <| ARun.nil _ _ _) ?_
  refine AWP.vc (s' := ⟨[(0, .rd β1 a0.length (a0.flatMap encR38)), (1, .sc (.bool a1)), (8, .sc (.bool (!y_1)))], []⟩) (VC.sub (.c rfl <| .c rfl <| .c rfl <| .n _) (.n _)) ?_
  refine AWP.cond (.tmp rfl) (fun hc => ?_) (fun hc => ?_)
  · have h := iteT hc h
    refine AWP.seq ?_
    refine AWP.region (.cons (.assign (lt1 rfl) (.const _ _ _)) <| .cons (.assign (lt1 rfl) (.const _ _ _)) <| .cons (.assign (lt1 rfl) (.const _ _ _)) <| ARun.nil _ _ _) ?_
    refine AWP.ret ?_
    obtain rfl := Option.some.inj h
    refine retJ (Res.vc (s' := ⟨[(4, .rd false ([] : List Int).length (([] : List Int).flatMap (encI .i64))), (5, .sc (.int .i64 (0 : Int))), (6, .sc (.int .i64 (1 : Int)))], []⟩) (VC.trans (VC.nilRd (d := 4) false rfl) (VC.sub (.c rfl <| .c rfl <| .c rfl <| .n _) (.n _))) ?_)
    refine Res.drop (H := []) rfl ?_
    exact Res.of rfl (.cons (.tmp rfl) (.cons (.tmp rfl) (.cons (.tmp rfl) (.nil)))) rfl rfl
  · have h := iteF hc h
    refine AWP.seq ?_
    refine AWP.region (.cons (.move (lt1 rfl) (.tmp rfl)) <| .cons (.lenRd (lt1 rfl) (.tmp rfl) Try.underlying22) <| .cons (.gtr (lt1 rfl) (.tmp rfl) (.const _ _ _)) <| .cons (.assign (lt1 rfl) (.tmp rfl)) <| ARun.nil _ _ _) ?_
    refine AWP.vc (s' := ⟨[(0, .rd β1 a0.length (a0.flatMap encR38)), (1, .sc (.bool a1)), (12, .sc (.bool (decide ((7 : Int) < (a0.length : Int)))))], []⟩) (VC.sub (.c rfl <| .c rfl <| .c rfl <| .n _) (.n _)) ?_
    refine AWP.cond (.tmp rfl) (fun hc => ?_) (fun hc => ?_)
    · have h := iteT hc h
      refine AWP.seq ?_
      refine AWP.region (.cons (.assign (lt1 rfl) (.const _ _ _)) <| .cons (.assign (lt1 rfl) (.const _ _ _)) <| .cons (.assign (lt1 rfl) (.const _ _ _)) <| ARun.nil _ _ _) ?_
      refine AWP.ret ?_
      obtain rfl := Option.some.inj h
      refine retJ (Res.vc (s' := ⟨[(4, .rd false ([] : List Int).length (([] : List Int).flatMap (encI .i64))), (5, .sc (.int .i64 (0 : Int))), (6, .sc (.int .i64 (9 : Int)))], []⟩) (VC.trans (VC.nilRd (d := 4) false rfl) (VC.sub (.c rfl <| .c rfl <| .c rfl <| .n _) (.n _))) ?_)
      refine Res.drop (H := []) rfl ?_
      exact Res.of rfl (.cons (.tmp rfl) (.cons (.tmp rfl) (.cons (.tmp rfl) (.nil)))) rfl rfl
    · have h := iteF hc h
      refine AWP.skip ?_
      refine AWP.seq ?_
      obtain ⟨y_2, hy_2, h⟩ := bindS h
      refine AWP.region (.cons (.move (lt1 rfl) (.tmp rfl)) <| .cons (.move (lt1 rfl) (.tmp rfl)) <| .cons (.call0 (bw := false) (lt1 rfl) (c42 (β1 := β1) (β2 := false) (β3 := false) n a0 ([] : List Int) ([] : List Int) a1 hy_2) (.cons (.tmp rfl) (.ren rfl) (.cons (.const _ _ _) (.nil) (.cons (.const _ _ _) (.nil) (.cons (.tmp rfl) (.ren rfl) (.nil))))) rfl) <| .cons (.assign (lt1 rfl) (.tmp rfl)) <| ARun.nil _ _ _) ?_
      refine AWP.vc (s' := ⟨[(0, .rd β1 a0.length (a0.flatMap encR38)), (1, .sc (.bool a1)), (7, .rd false y_2.length (y_2.flatMap (encI .i64)))], []⟩) (VC.sub (.c rfl <| .c rfl <| .c rfl <| .n _) (.n _)) ?_
      refine AWP.seq ?_
      obtain ⟨y_3, hy_3, h⟩ := bindS h
      refine AWP.region (.cons (.move (lt1 rfl) (.tmp rfl)) <| .cons (.move (lt1 rfl) (.tmp rfl)) <| .cons (.move (lt1 rfl) (.tmp rfl)) <| .cons (.move (lt1 rfl) (.tmp rfl)) <| .cons (.call0 (bw := false) (lt1 rfl) (c16 (β1 := β1) (β2 := false) n a0 y_2 a1 hy_3) (.cons (.tmp rfl) (.ren rfl) (.cons (.tmp rfl) (.ren rfl) (.cons (.tmp rfl) (.ren rfl) (.nil)))) rfl) <| .cons (.assign (lt1 rfl) (.tmp rfl)) <| .cons (.assign (lt1 rfl) (.tmp rfl)) <| .cons (.assign (lt1 rfl) (.const _ _ _)) <| ARun.nil _ _ _) ?_
      refine AWP.ret ?_
      obtain rfl := Option.some.inj h
      refine retJ (Res.vc (s' := ⟨[(4, .rd false y_2.length (y_2.flatMap (encI .i64))), (5, .sc (.int .i64 y_3)), (6, .sc (.int .i64 (0 : Int)))], []⟩) (VC.sub (.c rfl <| .c rfl <| .c rfl <| .n _) (.n _)) ?_)
      refine Res.drop (H := []) rfl ?_
      exact Res.of rfl (.cons (.tmp rfl) (.cons (.tmp rfl) (.cons (.tmp rfl) (.nil)))) rfl rfl
theorem c3 {β1 : Bool} {β2 : Bool} (n : Nat) (a0 : (List R38)) (a1 : Bool) (a2 : (List UInt8)) {r : Bool} (h : m3 n a0 a1 a2 = some r) : Spec Try.prog 3 [] [.rd β1 a0.length (a0.flatMap encR38), .sc (.bool a1), .rd β2 a2.length (a2.flatMap enc8)] [] (.sc (.bool r)) [] := by
  refine Spec.of (fn := Try.f3) Try.func3 Try.ntmps3 rfl rfl (le1 rfl) (fun w0 Zs Zb T0 ι0 => ?_)
  unfold m3 at h
  refine AWP.seq ?_
  refine AWP.region (.cons (.assign (lt1 rfl) (.const _ _ _)) <| ARun.nil _ _ _) ?_
  refine AWP.vc (s' := ⟨[(0, .rd β1 a0.length (a0.flatMap encR38)), (1, .sc (.bool a1)), (2, .rd β2 a2.length (a2.flatMap enc8))], []⟩) (VC.sub (.c rfl <| .c rfl <| .c rfl <| .n _) (.n _)) ?_
  refine AWP.seq ?_
  refine AWP.seq ?_
  obtain ⟨y_1, hy_1, h⟩ := bindS h
  obtain ⟨y_2, hy_2, h⟩ := bindS h
  refine AWP.region (.cons (.call0 (bw := false) (lt1 rfl) (c10 n hy_1) (.nil) rfl) <| .cons (.not (lt1 rfl) (.tmp rfl)) <| .cons (.move (lt1 rfl) (.tmp rfl)) <| .guard (j := 2) (dj := 15) rfl (lt1 rfl) rfl (lt1 rfl) (fun hg => .move (lt1 rfl) (.tmp rfl)) <| .guard (j := 2) (dj := 15) rfl (lt1 rfl) rfl (lt1 rfl) (fun hg => .call0 (bw := false) (lt1 rfl) (c11 (β1 := β1) n a0 (gdB hy_2 hg)) (.cons (.gd hg (.tmp rfl)) (.ren rfl) (.nil)) rfl) <| .guard (j := 2) (dj := 15) rfl (lt1 rfl) rfl (lt1 rfl) (fun hg => .not (lt1 rfl) (.gd hg (.tmp rfl))) <| .cons (.pickOr (lt1 rfl) (.tmp rfl) (.const _ _ _) (.tmp rfl)) <| ARun.nil _ _ _) ?_
  refine AWP.vc (s' := ⟨[(0, .rd β1 a0.length (a0.flatMap encR38)), (1, .sc (.bool a1)), (2, .rd β2 a2.length (a2.flatMap enc8)), (19, .sc (.bool ((!y_1) || (!y_2))))], []⟩) (VC.sub (.c rfl <| .c rfl <| .c rfl <| .c rfl <| .n _) (.n _)) ?_
  refine AWP.cond (.tmp rfl) (fun hc => ?_) (fun hc => ?_)
  · have h := iteT hc h
    refine AWP.seq ?_
    obtain ⟨y_3, hy_3, h⟩ := bindS h
    refine AWP.region (.cons (.call0 (bw := false) (lt1 rfl) (c10 n hy_3) (.nil) rfl) <| .cons (.assign (lt1 rfl) (.tmp rfl)) <| ARun.nil _ _ _) ?_
    refine AWP.ret ?_
    obtain rfl := Option.some.inj h
    refine retJ (Res.vc (s' := ⟨[(6, .sc (.bool y_3))], []⟩) (VC.sub (.c rfl <| .n _) (.n _)) ?_)
    refine Res.drop (H := []) rfl ?_
    exact Res.of rfl (.cons (.tmp rfl) (.nil)) rfl rfl
  · have h := iteF hc h
    refine AWP.skip ?_
    refine AWP.seq ?_
    obtain ⟨y_4, hy_4, h⟩ := bindS h
    obtain ⟨y_5, hy_5, h⟩ := bindS h
    refine AWP.region (.cons (.move (lt1 rfl) (.tmp rfl)) <| .cons (.call0 (bw := false) (lt1 rfl) (c13 (β1 := β1) n a0 hy_4) (.cons (.tmp rfl) (.ren rfl) (.nil)) rfl) <| .cons (.move (lt1 rfl) (.tmp rfl)) <| .cons (.call0 (bw := false) (lt1 rfl) (c12 (β1 := false) n y_4 a1 hy_5) (.cons (.tmp rfl) (.ren rfl) (.cons (.tmp rfl) (.ren rfl) (.nil))) rfl) <| .cons (.move (lt1 rfl) (.tmp rfl)) <| .cons (.extract (lt1 rfl) (.tmp rfl) rfl) <| .cons (.extract (lt1 rfl) (.tmp rfl) rfl) <| .cons (.extract (lt1 rfl) (.tmp rfl) rfl) <| .cons (.assign (lt1 rfl) (.tmp rfl)) <| .cons (.assign (lt1 rfl) (.tmp rfl)) <| .cons (.assign (lt1 rfl) (.tmp rfl)) <| ARun.nil _ _ _) ?_
    refine AWP.vc (s' := ⟨[(0, .rd β1 a0.length (a0.flatMap encR38)), (1, .sc (.bool a1)), (2, .rd β2 a2.length (a2.flatMap enc8)), (7, .rd false y_5.1.length (y_5.1.flatMap (encI .i64))), (8, .sc (.int .i64 y_5.2.1)), (9, .sc (.int .i64 y_5.2.2))], []⟩) (VC.sub (.c rfl <| .c rfl <| .c rfl <| .c rfl <| .c rfl <| .c rfl <| .n _) (.n _)) ?_
    refine AWP.seq ?_
    refine AWP.seq ?_
    obtain ⟨y_6, hy_6, h⟩ := bindS h
    refine AWP.region (.cons (.move (lt1 rfl) (.tmp rfl)) <| .cons (.call0 (bw := false) (lt1 rfl) (c14 (β1 := β1) n a0 hy_6) (.cons (.tmp rfl) (.ren rfl) (.nil)) rfl) <| .cons (.not (lt1 rfl) (.tmp rfl)) <| ARun.nil _ _ _) ?_
    refine AWP.vc (s' := ⟨[(0, .rd β1 a0.length (a0.flatMap encR38)), (1, .sc (.bool a1)), (2, .rd β2 a2.length (a2.flatMap enc8)), (7, .rd false y_5.1.length (y_5.1.flatMap (encI .i64))), (8, .sc (.int .i64 y_5.2.1)), (9, .sc (.int .i64 y_5.2.2)), (31, .sc (.bool (!y_6)))], []⟩) (VC.sub (.c rfl <| .c rfl <| .c rfl <| .c rfl <| .c rfl <| .c rfl <| .c rfl <| .n _) (.n _)) ?_
    refine AWP.cond (.tmp rfl) (fun hc => ?_) (fun hc => ?_)
    · have h := iteT hc h
      refine AWP.seq ?_
      refine AWP.region (.cons (.move (lt1 rfl) (.tmp rfl)) <| .cons (.eql (lt1 rfl) (.tmp rfl) (.const _ _ _)) <| .cons (.move (lt1 rfl) (.tmp rfl)) <| .guard (j := 2) (dj := 34) rfl (lt1 rfl) rfl (lt1 rfl) (fun hg => .move (lt1 rfl) (.tmp rfl)) <| .guard (j := 2) (dj := 34) rfl (lt1 rfl) rfl (lt1 rfl) (fun hg => .lenRd (lt1 rfl) (.gd hg (.tmp rfl)) Try.underlying26) <| .guard (j := 2) (dj := 34) rfl (lt1 rfl) rfl (lt1 rfl) (fun hg => .eql (lt1 rfl) (.gd hg (.tmp rfl)) (.const _ _ _)) <| .cons (.pickAnd (lt1 rfl) (.tmp rfl) (.tmp rfl) (.const _ _ _)) <| .cons (.assign (lt1 rfl) (.tmp rfl)) <| ARun.nil _ _ _) ?_
      refine AWP.ret ?_
      obtain rfl := Option.some.inj h
      refine retJ (Res.vc (s' := ⟨[(6, .sc (.bool ((decide (y_5.2.2 = (1 : Int))) && (decide ((y_5.1.length : Int) = (0 : Int))))))], []⟩) (VC.sub (.c rfl <| .n _) (.n _)) ?_)
      refine Res.drop (H := []) rfl ?_
      exact Res.of rfl (.cons (.tmp rfl) (.nil)) rfl rfl
    · have h := iteF hc h
      refine AWP.skip ?_
      refine AWP.seq ?_
      refine AWP.seq ?_
      refine AWP.region (.cons (.move (lt1 rfl) (.tmp rfl)) <| .cons (.lenRd (lt1 rfl) (.tmp rfl) Try.underlying22) <| .cons (.gtr (lt1 rfl) (.tmp rfl) (.const _ _ _)) <| ARun.nil _ _ _) ?_
      refine AWP.vc (s' := ⟨[(0, .rd β1 a0.length (a0.flatMap encR38)), (1, .sc (.bool a1)), (2, .rd β2 a2.length (a2.flatMap enc8)), (7, .rd false y_5.1.length (y_5.1.flatMap (encI .i64))), (8, .sc (.int .i64 y_5.2.1)), (9, .sc (.int .i64 y_5.2.2)), (41, .sc (.bool (decide ((7 : Int) < (a0.length : Int)))))], []⟩) (VC.sub (.c rfl <| .c rfl <| .c rfl <| .c rfl <| .c rfl <| .c rfl <| .c rfl <| .n _) (.n _)) ?_
      refine AWP.cond (.tmp rfl) (fun hc => ?_) (fun hc => ?_)
      · have h := iteT hc h
        refine AWP.seq ?_
        refine AWP.region (.cons (.move (lt1 rfl) (.tmp rfl)) <| .cons (.eql (lt1 rfl) (.tmp rfl) (.const _ _ _)) <| .cons (.move (lt1 rfl) (.tmp rfl)) <| .guard (j := 2) (dj := 44) rfl (lt1 rfl) rfl (lt1 rfl) (fun hg => .move (lt1 rfl) (.tmp rfl)) <| .guard (j := 2) (dj := 44) rfl (lt1 rfl) rfl (lt1 rfl) (fun hg => .lenRd (lt1 rfl) (.gd hg (.tmp rfl)) Try.underlying26) <| .guard (j := 2) (dj := 44) rfl (lt1 rfl) rfl (lt1 rfl) (fun hg => .eql (lt1 rfl) (.gd hg (.tmp rfl)) (.const _ _ _)) <| .cons (.pickAnd (lt1 rfl) (.tmp rfl) (.tmp rfl) (.const _ _ _)) <| .cons (.assign (lt1 rfl) (.tmp rfl)) <| ARun.nil _ _ _) ?_
        refine AWP.ret ?_
        obtain rfl := Option.some.inj h
        refine retJ (Res.vc (s' := ⟨[(6, .sc (.bool ((decide (y_5.2.2 = (9 : Int))) && (decide ((y_5.1.length : Int) = (0 : Int))))))], []⟩) (VC.sub (.c rfl <| .n _) (.n _)) ?_)
        refine Res.drop (H := []) rfl ?_
        exact Res.of rfl (.cons (.tmp rfl) (.nil)) rfl rfl
      · have h := iteF hc h
        refine AWP.skip ?_
        refine AWP.seq ?_
        refine AWP.seq ?_
        obtain ⟨y_7, hy_7, h⟩ := bindS h
        obtain ⟨y_8, hy_8, h⟩ := bindS h
        obtain ⟨y_9, hy_9, h⟩ := bindS h
        obtain ⟨y_10, hy_10, h⟩ := bindS h
        obtain ⟨t81_11, ht81_11, h⟩ := letS h
        refine AWP.region (.cons (.move (lt1 rfl) (.tmp rfl)) <| .cons (.neq (lt1 rfl) (.tmp rfl) (.const _ _ _)) <| .cons (.move (lt1 rfl) (.tmp rfl)) <| .guard (j := 2) (dj := 51) rfl (lt1 rfl) rfl (lt1 rfl) (fun hg => .move (lt1 rfl) (.tmp rfl)) <| .guard (j := 2) (dj := 51) rfl (lt1 rfl) rfl (lt1 rfl) (fun hg => .lenRd (lt1 rfl) (.gd hg (.tmp rfl)) Try.underlying26) <| .guard (j := 2) (dj := 51) rfl (lt1 rfl) rfl (lt1 rfl) (fun hg => .move (lt1 rfl) (.tmp rfl)) <| .guard (j := 2) (dj := 51) rfl (lt1 rfl) rfl (lt1 rfl) (fun hg => .lenRd (lt1 rfl) (.gd hg (.tmp rfl)) Try.underlying22) <| .guard (j := 2) (dj := 51) rfl (lt1 rfl) rfl (lt1 rfl) (fun hg => .neq (lt1 rfl) (.gd hg (.tmp rfl)) (.gd hg (.tmp rfl))) <| .cons (.pickOr (lt1 rfl) (.tmp rfl) (.const _ _ _) (.tmp rfl)) <| .cons (.move (lt1 rfl) (.tmp rfl)) <| .guard (j := 9) (dj := 58) rfl (lt1 rfl) rfl (lt1 rfl) (fun hg => .move (lt1 rfl) (.tmp rfl)) <| .guard (j := 9) (dj := 58) rfl (lt1 rfl) rfl (lt1 rfl) (fun hg => .move (lt1 rfl) (.tmp rfl)) <| .guard (j := 9) (dj := 58) rfl (lt1 rfl) rfl (lt1 rfl) (fun hg => .call0 (bw := false) (lt1 rfl) (c15 (β1 := β1) (β2 := false) n a0 y_5.1 (gdB hy_7 hg)) (.cons (.gd hg (.tmp rfl)) (.ren rfl) (.cons (.gd hg (.tmp rfl)) (.ren rfl) (.nil))) rfl) <| .guard (j := 9) (dj := 58) rfl (lt1 rfl) rfl (lt1 rfl) (fun hg => .not (lt1 rfl) (.gd hg (.tmp rfl))) <| .cons (.pickOr (lt1 rfl) (.tmp rfl) (.const _ _ _) (.tmp rfl)) <| .cons (.move (lt1 rfl) (.tmp rfl)) <| .guard (j := 15) (dj := 64) rfl (lt1 rfl) rfl (lt1 rfl) (fun hg => .move (lt1 rfl) (.tmp rfl)) <| .guard (j := 15) (dj := 64) rfl (lt1 rfl) rfl (lt1 rfl) (fun hg => .move (lt1 rfl) (.tmp rfl)) <| .guard (j := 15) (dj := 64) rfl (lt1 rfl) rfl (lt1 rfl) (fun hg => .move (lt1 rfl) (.tmp rfl)) <| .guard (j := 15) (dj := 64) rfl (lt1 rfl) rfl (lt1 rfl) (fun hg => .call0 (bw := false) (lt1 rfl) (c16 (β1 := β1) (β2 := false) n a0 y_5.1 a1 (gdB hy_8 hg)) (.cons (.gd hg (.tmp rfl)) (.ren rfl) (.cons (.gd hg (.tmp rfl)) (.ren rfl) (.cons (.gd hg (.tmp rfl)) (.ren rfl) (.nil)))) rfl) <| .guard (j := 15) (dj := 64) rfl (lt1 rfl) rfl (lt1 rfl) (fun hg => .move (lt1 rfl) (.tmp rfl)) <| .guard (j := 15) (dj := 64) rfl (lt1 rfl) rfl (lt1 rfl) (fun hg => .neq (lt1 rfl) (.gd hg (.tmp rfl)) (.gd hg (.tmp rfl))) <| .cons (.pickOr (lt1 rfl) (.tmp rfl) (.const _ _ _) (.tmp rfl)) <| .cons (.move (lt1 rfl) (.tmp rfl)) <| .guard (j := 23) (dj := 72) rfl (lt1 rfl) rfl (lt1 rfl) (fun hg => .move (lt1 rfl) (.tmp rfl)) <| .guard (j := 23) (dj := 72) rfl (lt1 rfl) rfl (lt1 rfl) (fun hg => .move (lt1 rfl) (.tmp rfl)) <| .guard (j := 23) (dj := 72) rfl (lt1 rfl) rfl (lt1 rfl) (fun hg => .move (lt1 rfl) (.tmp rfl)) <| .guard (j := 23) (dj := 72) rfl (lt1 rfl) rfl (lt1 rfl) (fun hg => .call0 (bw := false) (lt1 rfl) (c17 (β1 := β1) (β2 := false) (β3 := β2) n a0 ([] : List Int) a2 (gdB hy_9 hg)) (.cons (.gd hg (.tmp rfl)) (.ren rfl) (.cons (.const _ _ _) (.nil) (.cons (.gd hg (.tmp rfl)) (.ren rfl) (.nil)))) rfl) <| .guard (j := 23) (dj := 72) rfl (lt1 rfl) rfl (lt1 rfl) (fun hg => .move (lt1 rfl) (.tmp rfl)) <| .guard (j := 23) (dj := 72) rfl (lt1 rfl) rfl (lt1 rfl) (fun hg => .call0 (bw := false) (lt1 rfl) (c16 (β1 := β1) (β2 := false) n a0 y_9 a1 (gdB hy_10 hg)) (.cons (.gd hg (.tmp rfl)) (.ren rfl) (.cons (.gd hg (.tmp rfl)) (.ren rfl) (.cons (.gd hg (.tmp rfl)) (.ren rfl) (.nil)))) rfl) <| .guard (j := 23) (dj := 72) rfl (lt1 rfl) rfl (lt1 rfl) (fun hg => .move (lt1 rfl) (.tmp rfl)) <| .guard (j := 23) (dj := 72) rfl (lt1 rfl) rfl (lt1 rfl) (fun hg => .lss (lt1 rfl) (.gd hg (.tmp rfl)) (.gd hg (.tmp rfl))) <| .cons (.pickOr (lt1 rfl) (.tmp rfl) (.const _ _ _) (.tmp rfl)) <| ARun.nil _ _ _) ?_
        refine AWP.vc (s' := ⟨[(0, .rd β1 a0.length (a0.flatMap encR38)), (1, .sc (.bool a1)), (7, .rd false y_5.1.length (y_5.1.flatMap (encI .i64))), (8, .sc (.int .i64 y_5.2.1)), (81, .sc (.bool t81_11))], []⟩) (by subst ht81_11; exact VC.sub (.c rfl <| .c rfl <| .c rfl <| .c rfl <| .c rfl <| .n _) (.n _)) ?_
        refine AWP.cond (.tmp rfl) (fun hc => ?_) (fun hc => ?_)
        · have h := iteT hc h
          refine AWP.seq ?_
          refine AWP.region (.cons (.assign (lt1 rfl) (.const _ _ _)) <| ARun.nil _ _ _) ?_
          refine AWP.ret ?_
          obtain rfl := Option.some.inj h
          refine retJ (Res.vc (s' := ⟨[(6, .sc (.bool false))], []⟩) (VC.sub (.c rfl <| .n _) (.n _)) ?_)
          refine Res.drop (H := []) rfl ?_
          exact Res.of rfl (.cons (.tmp rfl) (.nil)) rfl rfl
        · have h := iteF hc h
          refine AWP.skip ?_
          refine AWP.seq ?_
          refine AWP.seq ?_
          refine AWP.region (.cons (.move (lt1 rfl) (.tmp rfl)) <| .cons (.lenRd (lt1 rfl) (.tmp rfl) Try.underlying22) <| .cons (.gtr (lt1 rfl) (.tmp rfl) (.const _ _ _)) <| ARun.nil _ _ _) ?_
          refine AWP.vc (s' := ⟨[(0, .rd β1 a0.length (a0.flatMap encR38)), (1, .sc (.bool a1)), (7, .rd false y_5.1.length (y_5.1.flatMap (encI .i64))), (8, .sc (.int .i64 y_5.2.1)), (84, .sc (.bool (decide ((5 : Int) < (a0.length : Int)))))], []⟩) (VC.sub (.c rfl <| .c rfl <| .c rfl <| .c rfl <| .c rfl <| .n _) (.n _)) ?_
          refine AWP.cond (.tmp rfl) (fun hc => ?_) (fun hc => ?_)
          · have h := iteT hc h
            refine AWP.seq ?_
            refine AWP.region (.cons (.assign (lt1 rfl) (.const _ _ _)) <| ARun.nil _ _ _) ?_
            refine AWP.ret ?_
            obtain rfl := Option.some.inj h
            refine retJ (Res.vc (s' := ⟨[(6, .sc (.bool true))], []⟩) (VC.sub (.c rfl <| .n _) (.n _)) ?_)
            refine Res.drop (H := []) rfl ?_
            exact Res.of rfl (.cons (.tmp rfl) (.nil)) rfl rfl
          · have h := iteF hc h
            refine AWP.skip ?_
            refine AWP.seq ?_
            obtain ⟨y_12, hy_12, h⟩ := bindS h
            refine AWP.region (.cons (.move (lt1 rfl) (.tmp rfl)) <| .cons (.move (lt1 rfl) (.tmp rfl)) <| .cons (.call0 (bw := false) (lt1 rfl) (c18 (β1 := β1) n a0 a1 hy_12) (.cons (.tmp rfl) (.ren rfl) (.cons (.tmp rfl) (.ren rfl) (.nil))) rfl) <| .cons (.move (lt1 rfl) (.tmp rfl)) <| .cons (.extract (lt1 rfl) (.tmp rfl) rfl) <| .cons (.extract (lt1 rfl) (.tmp rfl) rfl) <| .cons (.extract (lt1 rfl) (.tmp rfl) rfl) <| .cons (.assign (lt1 rfl) (.tmp rfl)) <| .cons (.assign (lt1 rfl) (.tmp rfl)) <| .cons (.assign (lt1 rfl) (.tmp rfl)) <| ARun.nil _ _ _) ?_
            refine AWP.vc (s' := ⟨[(7, .rd false y_5.1.length (y_5.1.flatMap (encI .i64))), (8, .sc (.int .i64 y_5.2.1)), (10, .rd false y_12.1.length (y_12.1.flatMap (encI .i64))), (11, .sc (.int .i64 y_12.2.1)), (12, .sc (.int .i64 y_12.2.2))], []⟩) (VC.sub (.c rfl <| .c rfl <| .c rfl <| .c rfl <| .c rfl <| .n _) (.n _)) ?_
            refine AWP.seq ?_
            obtain ⟨y_13, hy_13, h⟩ := bindS h
            refine AWP.region (.cons (.move (lt1 rfl) (.tmp rfl)) <| .cons (.eql (lt1 rfl) (.tmp rfl) (.const _ _ _)) <| .cons (.move (lt1 rfl) (.tmp rfl)) <| .guard (j := 2) (dj := 94) rfl (lt1 rfl) rfl (lt1 rfl) (fun hg => .move (lt1 rfl) (.tmp rfl)) <| .guard (j := 2) (dj := 94) rfl (lt1 rfl) rfl (lt1 rfl) (fun hg => .move (lt1 rfl) (.tmp rfl)) <| .guard (j := 2) (dj := 94) rfl (lt1 rfl) rfl (lt1 rfl) (fun hg => .eql (lt1 rfl) (.gd hg (.tmp rfl)) (.gd hg (.tmp rfl))) <| .cons (.pickAnd (lt1 rfl) (.tmp rfl) (.tmp rfl) (.const _ _ _)) <| .cons (.move (lt1 rfl) (.tmp rfl)) <| .guard (j := 7) (dj := 99) rfl (lt1 rfl) rfl (lt1 rfl) (fun hg => .move (lt1 rfl) (.tmp rfl)) <| .guard (j := 7) (dj := 99) rfl (lt1 rfl) rfl (lt1 rfl) (fun hg => .move (lt1 rfl) (.tmp rfl)) <| .guard (j := 7) (dj := 99) rfl (lt1 rfl) rfl (lt1 rfl) (fun hg => .call0 (bw := false) (lt1 rfl) (c19 (β1 := false) (β2 := false) n y_5.1 y_12.1 (gdB hy_13 hg)) (.cons (.gd hg (.tmp rfl)) (.ren rfl) (.cons (.gd hg (.tmp rfl)) (.ren rfl) (.nil))) rfl) <| .cons (.pickAnd (lt1 rfl) (.tmp rfl) (.tmp rfl) (.const _ _ _)) <| .cons (.assign (lt1 rfl) (.tmp rfl)) <| ARun.nil _ _ _) ?_
            refine AWP.ret ?_
            obtain rfl := Option.some.inj h
            refine retJ (Res.vc (s' := ⟨[(6, .sc (.bool (((decide (y_12.2.2 = (0 : Int))) && (decide (y_5.2.1 = y_12.2.1))) && y_13)))], []⟩) (VC.sub (.c rfl <| .n _) (.n _)) ?_)
            refine Res.drop (H := []) rfl ?_
            exact Res.of rfl (.cons (.tmp rfl) (.nil)) rfl rfl
end Go.AB
