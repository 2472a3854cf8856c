import Derived.Test.YtiginjokbkemcaaProg
import Derived.Test.YtiginjokbkemcaaD
import Derived.KernelRfl
set_option linter.unusedVariables false
set_option maxRecDepth 20000
namespace Go.AB
open Go Go.Proofs
theorem c54 (n : Nat) (a0 : R45) {r : Bool} (h : m54 n a0 = some r) : Spec Try.prog 54 [] [.agg [.sc (.int .i64 a0.X),.sc (.int .i64 a0.Y)]] [] (.sc (.bool r)) [] := by
  refine Spec.of (fn := Try.f54) Try.func54 Try.ntmps54 rfl rfl (le1 rfl) (fun w0 Zs Zb T0 ι0 => ?_)
  unfold m54 at h
  refine AWP.seq ?_
  refine AWP.region (.cons (.box (t := 1) (n := 2) (lt1 rfl) (nm rfl) (.tmp rfl) (by first | exact ⟨rfl,rfl⟩ | rfl) rfl)<| .cons (.assign (lt1 rfl) (.const _ _ _))<| ARun.nil _ _ _) ?_
  refine AWP.vc (s' := ⟨[(1,.ptr 1 0)],[(1,⟨46,false,[.sc (.int .i64 a0.X),.sc (.int .i64 a0.Y)]⟩)]⟩) (VC.sub (.c rfl<| .n _) (.c rfl<| .n _)) ?_
  refine AWP.seq ?_
  refine AWP.region (.cons (.fieldP (lt1 rfl) (.tmp rfl) fld46_0)<| .cons (.loadP (lt1 rfl) (.tmp rfl) one3 rfl rfl rfl)<| .cons (.lss (lt1 rfl) (.tmp rfl) (.const _ _ _))<| .cons (.move (lt1 rfl) (.tmp rfl))<| .guard (j := 3) (dj := 6) rfl (lt1 rfl) rfl (lt1 rfl) (fun hg => .fieldP (lt1 rfl) (.tmp rfl) fld46_0)<| .guard (j := 3) (dj := 6) rfl (lt1 rfl) rfl (lt1 rfl) (fun hg => .loadP (lt1 rfl) (.gd hg (.tmp rfl)) one3 rfl rfl rfl)<| .guard (j := 3) (dj := 6) rfl (lt1 rfl) rfl (lt1 rfl) (fun hg => .gtr (lt1 rfl) (.gd hg (.tmp rfl)) (.const _ _ _))<| .cons (.pickOr (lt1 rfl) (.tmp rfl) (.const _ _ _) (.tmp rfl))<| .cons (.move (lt1 rfl) (.tmp rfl))<| .guard (j := 8) (dj := 11) rfl (lt1 rfl) rfl (lt1 rfl) (fun hg => .fieldP (lt1 rfl) (.tmp rfl) fld46_1)<| .guard (j := 8) (dj := 11) rfl (lt1 rfl) rfl (lt1 rfl) (fun hg => .loadP (lt1 rfl) (.gd hg (.tmp rfl)) one3 rfl rfl rfl)<| .guard (j := 8) (dj := 11) rfl (lt1 rfl) rfl (lt1 rfl) (fun hg => .lss (lt1 rfl) (.gd hg (.tmp rfl)) (.const _ _ _))<| .cons (.pickOr (lt1 rfl) (.tmp rfl) (.const _ _ _) (.tmp rfl))<| .cons (.move (lt1 rfl) (.tmp rfl))<| .guard (j := 13) (dj := 16) rfl (lt1 rfl) rfl (lt1 rfl) (fun hg => .fieldP (lt1 rfl) (.tmp rfl) fld46_1)<| .guard (j := 13) (dj := 16) rfl (lt1 rfl) rfl (lt1 rfl) (fun hg => .loadP (lt1 rfl) (.gd hg (.tmp rfl)) one3 rfl rfl rfl)<| .guard (j := 13) (dj := 16) rfl (lt1 rfl) rfl (lt1 rfl) (fun hg => .gtr (lt1 rfl) (.gd hg (.tmp rfl)) (.const _ _ _))<| .cons (.pickOr (lt1 rfl) (.tmp rfl) (.const _ _ _) (.tmp rfl))<| .cons (.assign (lt1 rfl) (.tmp rfl))<| ARun.nil _ _ _) ?_
  refine AWP.ret ?_
  obtain rfl := Option.some.inj h
  refine retJ (Res.vc (s' := ⟨[(2,.sc (.bool ((((decide (a0.X < (-8000 : Int))) || (decide ((8000 : Int) < a0.X))) || (decide (a0.Y < (-8000 : Int)))) || (decide ((8000 : Int) < a0.Y)))))],[]⟩) (VC.sub (.c rfl<| .n _) (.n _)) ?_)
  refine Res.drop (H := []) rfl ?_
  exact Res.of rfl (.cons (.tmp rfl) (.nil)) rfl rfl
theorem c86 {β1 : Bool} (n : Nat) (a0 : (List R45)) {r : Int} (h : m86 n a0 = some r) : Spec Try.prog 86 [] [.rd β1 a0.length (a0.flatMap encR45),.clo (.func 54) [] []] [] (.sc (.int .i64 r)) [] := by
  refine Spec.of (fn := Try.f86) Try.func86 Try.ntmps86 rfl rfl (le1 rfl) (fun w0 Zs Zb T0 ι0 => ?_)
  unfold m86 at h
  refine AWP.seq ?_
  refine AWP.region (.cons (.assign (lt1 rfl) (.const _ _ _))<| ARun.nil _ _ _) ?_
  refine AWP.vc (s' := ⟨[(0,.rd β1 a0.length (a0.flatMap encR45)),(1,.clo (.func 54) [] [])],[]⟩) (VC.sub (.c rfl<| .c rfl<| .n _) (.n _)) ?_
  refine AWP.seq ?_
  refine AWP.seq ?_
  refine AWP.region (.cons (.move (lt1 rfl) (.tmp rfl))<| .cons (.lenRd (lt1 rfl) (.tmp rfl) Try.underlying22)<| .cons (.move (lt1 rfl) (.const _ _ _))<| ARun.nil _ _ _) ?_
  refine AWP.vc (s' := ⟨[(0,.rd β1 a0.length (a0.flatMap encR45)),(1,.clo (.func 54) [] []),(7,.sc (.int .i64 (a0.length : Int))),(8,.sc (.int .i64 (0 : Int)))],[]⟩) (VC.sub (.c rfl<| .c rfl<| .c rfl<| .c rfl<| .n _) (.n _)) ?_
  refine AWP.joinB' (S := fun p_10 : Unit => ⟨[],[]⟩) h (fun p_10 h => ?_) (fun k_11 h => ?_)
  · refine AWP.seq ?_
    refine AWP.region (.cons (.assign (lt1 rfl) (.const _ _ _))<| ARun.nil _ _ _) ?_
    refine AWP.ret ?_
    obtain rfl := Option.some.inj h
    refine retJ (Res.vc (s' := ⟨[(4,.sc (.int .i64 (-1 : Int)))],[]⟩) (VC.sub (.c rfl<| .n _) (.n _)) ?_)
    refine Res.drop (H := []) rfl ?_
    exact Res.of rfl (.cons (.tmp rfl) (.nil)) rfl rfl
  · refine AWP.vc (s' := ⟨[(0,.rd β1 a0.length (a0.flatMap encR45)),(1,.clo (.func 54) [] []),(7,.sc (.int .i64 (a0.length : Int))),(8,.sc (.int .i64 (0 : Int)))],[]⟩) (VC.sub (.c rfl<| .c rfl<| .c rfl<| .c rfl<| .n _) (.n _)) ?_
    refine AWP.loopM (S := fun x_5 : Int => ⟨[(0,.rd β1 a0.length (a0.flatMap encR45)),(1,.clo (.func 54) [] []),(7,.sc (.int .i64 (a0.length : Int))),(8,.sc (.int .i64 x_5))],[]⟩) (x := (0 : Int)) (fun nx_6 x_5 h => ?_) h
    unfold m86_L1 at h
    refine AWP.seq ?_
    refine AWP.region (.cons (.lss (lt1 rfl) (.tmp rfl) (.tmp rfl))<| ARun.nil _ _ _) ?_
    refine AWP.vc (s' := ⟨[(0,.rd β1 a0.length (a0.flatMap encR45)),(1,.clo (.func 54) [] []),(7,.sc (.int .i64 (a0.length : Int))),(8,.sc (.int .i64 x_5)),(9,.sc (.bool (decide (x_5 < (a0.length : Int)))))],[]⟩) (VC.sub (.c rfl<| .c rfl<| .c rfl<| .c rfl<| .c rfl<| .n _) (.n _)) ?_
    refine AWP.seq ?_
    refine AWP.cond (.tmp rfl) (fun hc => ?_) (fun hc => ?_)
    · have h := iteT hc h
      refine AWP.skip ?_
      refine AWP.seq ?_
      refine AWP.block ?_
      refine AWP.seq ?_
      refine AWP.region (.cons (.move (lt1 rfl) (.tmp rfl))<| .cons (.assign (lt1 rfl) (.tmp rfl))<| ARun.nil _ _ _) ?_
      refine AWP.vc (s' := ⟨[(0,.rd β1 a0.length (a0.flatMap encR45)),(1,.clo (.func 54) [] []),(7,.sc (.int .i64 (a0.length : Int))),(8,.sc (.int .i64 x_5)),(5,.sc (.int .i64 x_5))],[]⟩) (VC.sub (.c rfl<| .c rfl<| .c rfl<| .c rfl<| .c rfl<| .n _) (.n _)) ?_
      refine AWP.seq ?_
      obtain ⟨y_7,hy_7,h⟩ := bindS h
      obtain ⟨y_8,hy_8,h⟩ := bindS h
      refine AWP.region (.cons (.move (lt1 rfl) (.tmp rfl))<| .cons (.move (lt1 rfl) (.tmp rfl))<| .cons (.move (lt1 rfl) (.tmp rfl))<| .cons (.indexRd (enc := encR45) (lt1 rfl) (.tmp rfl) (.tmp rfl) Try.underlying22 sz46 encR45_len rfl hy_7)<| .cons (.loadRA (out := [.sc (.int .i64 y_7.X),.sc (.int .i64 y_7.Y)]) (lt1 rfl) (.tmp rfl) agg46 (Nat.le_of_eq (Eq.symm (encR45_len _))) rfl)<| .cons (.keep (bw := false) (AStep.callV (us' := []) (avs := [.agg [.sc (.int .i64 ((R45.mk y_7.X y_7.Y).X)),.sc (.int .i64 ((R45.mk y_7.X y_7.Y).Y))]]) (cs' := []) (σ := sgT []) (bw := false) (lt1 rfl) (.tmp rfl) (c54 n (R45.mk y_7.X y_7.Y) hy_8) (.nil) (.cons (.tmp rfl) (.ren rfl) (.nil)) (.nil) (CallOk.mk' (.n) rfl) (fun _ h => by cases h)) (CallOk.mk' (.n) rfl) rfl rfl)<| ARun.nil _ _ _) ?_
      refine AWP.vc (s' := ⟨[(0,.rd β1 a0.length (a0.flatMap encR45)),(1,.clo (.func 54) [] []),(7,.sc (.int .i64 (a0.length : Int))),(8,.sc (.int .i64 x_5)),(5,.sc (.int .i64 x_5)),(16,.sc (.bool y_8))],[]⟩) (VC.sub (.c rfl<| .c rfl<| .c rfl<| .c rfl<| .c rfl<| .c rfl<| .n _) (.n _)) ?_
      refine AWP.cond (.tmp rfl) (fun hc => ?_) (fun hc => ?_)
      · have h := iteT hc h
        refine AWP.seq ?_
        refine AWP.region (.cons (.move (lt1 rfl) (.tmp rfl))<| .cons (.assign (lt1 rfl) (.tmp rfl))<| ARun.nil _ _ _) ?_
        refine AWP.ret ?_
        obtain rfl := Option.some.inj h
        refine retJ (Res.vc (s' := ⟨[(4,.sc (.int .i64 x_5))],[]⟩) (VC.sub (.c rfl<| .n _) (.n _)) ?_)
        refine Res.drop (H := []) rfl ?_
        exact Res.of rfl (.cons (.tmp rfl) (.nil)) rfl rfl
      · have h := iteF hc h
        refine AWP.skip ?_
        obtain ⟨t8_9,ht8_9,h⟩ := letS h
        refine AWP.region (.cons (.add (lt1 rfl) (.tmp rfl) (.const _ _ _))<| .cons (.move (lt1 rfl) (.tmp rfl))<| ARun.nil _ _ _) ?_
        exact endJ t8_9 h (by subst ht8_9; exact VC.sub (.c rfl<| .c rfl<| .c rfl<| .c rfl<| .n _) (.n _))
    · have h := iteF hc h
      refine AWP.exit ?_
      exact endJ () h (VC.sub (.n _) (.n _))
theorem c56 {β1 : Bool} (n : Nat) (a0 : (List R45)) {r : Bool} (h : m56 n a0 = some r) : Spec Try.prog 56 [] [.rd β1 a0.length (a0.flatMap encR45),.clo (.func 54) [] []] [] (.sc (.bool r)) [] := by
  refine Spec.of (fn := Try.f56) Try.func56 Try.ntmps56 rfl rfl (le1 rfl) (fun w0 Zs Zb T0 ι0 => ?_)
  unfold m56 at h
  refine AWP.seq ?_
  refine AWP.region (.cons (.assign (lt1 rfl) (.const _ _ _))<| ARun.nil _ _ _) ?_
  refine AWP.vc (s' := ⟨[(0,.rd β1 a0.length (a0.flatMap encR45)),(1,.clo (.func 54) [] [])],[]⟩) (VC.sub (.c rfl<| .c rfl<| .n _) (.n _)) ?_
  refine AWP.seq ?_
  obtain ⟨y_1,hy_1,h⟩ := bindS h
  refine AWP.region (.cons (.move (lt1 rfl) (.tmp rfl))<| .cons (.move (lt1 rfl) (.tmp rfl))<| .cons (.call0 (bw := false) (lt1 rfl) (c86 (β1 := β1) n a0 hy_1) (.cons (.tmp rfl) (.ren rfl) (.cons (.tmp rfl) (.ren rfl) (.nil))) rfl)<| .cons (.geq (lt1 rfl) (.tmp rfl) (.const _ _ _))<| .cons (.assign (lt1 rfl) (.tmp rfl))<| ARun.nil _ _ _) ?_
  refine AWP.ret ?_
  obtain rfl := Option.some.inj h
  refine retJ (Res.vc (s' := ⟨[(4,.sc (.bool (decide ((0 : Int) ≤ y_1))))],[]⟩) (VC.sub (.c rfl<| .n _) (.n _)) ?_)
  refine Res.drop (H := []) rfl ?_
  exact Res.of rfl (.cons (.tmp rfl) (.nil)) rfl rfl
theorem c55 (n : Nat) (a0 : R93) (a1_b0 : Int) {r : Bool} (h : m55 n a0 a1_b0 = some r) : Spec Try.prog 55 [1] [.agg [.sc (.int .i64 a0.f0),.sc (.int .i64 a0.f1)],.ptr 1 0] [(1,⟨3,false,[.sc (.int .i64 a1_b0)]⟩)] (.sc (.bool r)) [(1,⟨3,false,[.sc (.int .i64 a1_b0)]⟩)] := by
  refine Spec.of (fn := Try.f55) Try.func55 Try.ntmps55 rfl rfl (le1 rfl) (fun w0 Zs Zb T0 ι0 => ?_)
  unfold m55 at h
  refine AWP.seq ?_
  refine AWP.region (.cons (.box (t := 2) (n := 2) (lt1 rfl) (nm rfl) (.tmp rfl) (by first | exact ⟨rfl,rfl⟩ | rfl) rfl)<| .cons (.assign (lt1 rfl) (.const _ _ _))<| ARun.nil _ _ _) ?_
  refine AWP.vc (s' := ⟨[(1,.ptr 1 0),(2,.ptr 2 0)],[(2,⟨93,false,[.sc (.int .i64 a0.f0),.sc (.int .i64 a0.f1)]⟩),(1,⟨3,false,[.sc (.int .i64 a1_b0)]⟩)]⟩) (VC.sub (.c rfl<| .c rfl<| .n _) (.c rfl<| .c rfl<| .n _)) ?_
  refine AWP.seq ?_
  refine AWP.region (.cons (.idxP (lt1 rfl) (.tmp rfl) (.const _ _ _) Try.underlying93 sz3 (by decide) rfl)<| .cons (.loadP (lt1 rfl) (.tmp rfl) one3 rfl rfl rfl)<| .cons (.lss (lt1 rfl) (.tmp rfl) (.const _ _ _))<| .cons (.move (lt1 rfl) (.tmp rfl))<| .guard (j := 3) (dj := 7) rfl (lt1 rfl) rfl (lt1 rfl) (fun hg => .idxP (lt1 rfl) (.tmp rfl) (.const _ _ _) Try.underlying93 sz3 (by decide) rfl)<| .guard (j := 3) (dj := 7) rfl (lt1 rfl) rfl (lt1 rfl) (fun hg => .loadP (lt1 rfl) (.gd hg (.tmp rfl)) one3 rfl rfl rfl)<| .guard (j := 3) (dj := 7) rfl (lt1 rfl) rfl (lt1 rfl) (fun hg => .loadP (lt1 rfl) (.tmp rfl) one3 rfl rfl rfl)<| .guard (j := 3) (dj := 7) rfl (lt1 rfl) rfl (lt1 rfl) (fun hg => .geq (lt1 rfl) (.gd hg (.tmp rfl)) (.gd hg (.tmp rfl)))<| .cons (.pickOr (lt1 rfl) (.tmp rfl) (.const _ _ _) (.tmp rfl))<| .cons (.move (lt1 rfl) (.tmp rfl))<| .guard (j := 9) (dj := 13) rfl (lt1 rfl) rfl (lt1 rfl) (fun hg => .idxP (lt1 rfl) (.tmp rfl) (.const _ _ _) Try.underlying93 sz3 (by decide) rfl)<| .guard (j := 9) (dj := 13) rfl (lt1 rfl) rfl (lt1 rfl) (fun hg => .loadP (lt1 rfl) (.gd hg (.tmp rfl)) one3 rfl rfl rfl)<| .guard (j := 9) (dj := 13) rfl (lt1 rfl) rfl (lt1 rfl) (fun hg => .lss (lt1 rfl) (.gd hg (.tmp rfl)) (.const _ _ _))<| .cons (.pickOr (lt1 rfl) (.tmp rfl) (.const _ _ _) (.tmp rfl))<| .cons (.move (lt1 rfl) (.tmp rfl))<| .guard (j := 14) (dj := 18) rfl (lt1 rfl) rfl (lt1 rfl) (fun hg => .idxP (lt1 rfl) (.tmp rfl) (.const _ _ _) Try.underlying93 sz3 (by decide) rfl)<| .guard (j := 14) (dj := 18) rfl (lt1 rfl) rfl (lt1 rfl) (fun hg => .loadP (lt1 rfl) (.gd hg (.tmp rfl)) one3 rfl rfl rfl)<| .guard (j := 14) (dj := 18) rfl (lt1 rfl) rfl (lt1 rfl) (fun hg => .loadP (lt1 rfl) (.tmp rfl) one3 rfl rfl rfl)<| .guard (j := 14) (dj := 18) rfl (lt1 rfl) rfl (lt1 rfl) (fun hg => .geq (lt1 rfl) (.gd hg (.tmp rfl)) (.gd hg (.tmp rfl)))<| .cons (.pickOr (lt1 rfl) (.tmp rfl) (.const _ _ _) (.tmp rfl))<| .cons (.move (lt1 rfl) (.tmp rfl))<| .guard (j := 20) (dj := 24) rfl (lt1 rfl) rfl (lt1 rfl) (fun hg => .idxP (lt1 rfl) (.tmp rfl) (.const _ _ _) Try.underlying93 sz3 (by decide) rfl)<| .guard (j := 20) (dj := 24) rfl (lt1 rfl) rfl (lt1 rfl) (fun hg => .loadP (lt1 rfl) (.gd hg (.tmp rfl)) one3 rfl rfl rfl)<| .guard (j := 20) (dj := 24) rfl (lt1 rfl) rfl (lt1 rfl) (fun hg => .idxP (lt1 rfl) (.tmp rfl) (.const _ _ _) Try.underlying93 sz3 (by decide) rfl)<| .guard (j := 20) (dj := 24) rfl (lt1 rfl) rfl (lt1 rfl) (fun hg => .loadP (lt1 rfl) (.gd hg (.tmp rfl)) one3 rfl rfl rfl)<| .guard (j := 20) (dj := 24) rfl (lt1 rfl) rfl (lt1 rfl) (fun hg => .eql (lt1 rfl) (.gd hg (.tmp rfl)) (.gd hg (.tmp rfl)))<| .cons (.pickOr (lt1 rfl) (.tmp rfl) (.const _ _ _) (.tmp rfl))<| .cons (.assign (lt1 rfl) (.tmp rfl))<| ARun.nil _ _ _) ?_
  refine AWP.ret ?_
  obtain rfl := Option.some.inj h
  refine retJ (Res.vc (s' := ⟨[(3,.sc (.bool (((((decide (a0.f0 < (1 : Int))) || (decide (a1_b0 ≤ a0.f0))) || (decide (a0.f1 < (1 : Int)))) || (decide (a1_b0 ≤ a0.f1))) || (decide (a0.f0 = a0.f1)))))],[(1,⟨3,false,[.sc (.int .i64 a1_b0)]⟩)]⟩) (VC.sub (.c rfl<| .n _) (.c rfl<| .n _)) ?_)
  refine Res.sub (H := [(1,⟨3,false,[.sc (.int .i64 a1_b0)]⟩)]) (.c rfl<| .n _) ?_
  exact Res.of rfl (.cons (.tmp rfl) (.nil)) rfl rfl
theorem c87 {β1 : Bool} (n : Nat) (a0 : (List R93)) (a1_0_b0 : Int) {r : Int} (h : m87 n a0 a1_0_b0 = some r) : Spec Try.prog 87 [1] [.rd β1 a0.length (a0.flatMap encR93),.clo (.func 55) [] [.ptr 1 0]] [(1,⟨3,false,[.sc (.int .i64 a1_0_b0)]⟩)] (.sc (.int .i64 r)) [(1,⟨3,false,[.sc (.int .i64 a1_0_b0)]⟩)] := by
  refine Spec.of (fn := Try.f87) Try.func87 Try.ntmps87 rfl rfl (le1 rfl) (fun w0 Zs Zb T0 ι0 => ?_)
  unfold m87 at h
  refine AWP.seq ?_
  refine AWP.region (.cons (.assign (lt1 rfl) (.const _ _ _))<| ARun.nil _ _ _) ?_
  refine AWP.vc (s' := ⟨[(0,.rd β1 a0.length (a0.flatMap encR93)),(1,.clo (.func 55) [] [.ptr 1 0])],[(1,⟨3,false,[.sc (.int .i64 a1_0_b0)]⟩)]⟩) (VC.sub (.c rfl<| .c rfl<| .n _) (.c rfl<| .n _)) ?_
  refine AWP.seq ?_
  refine AWP.seq ?_
  refine AWP.region (.cons (.move (lt1 rfl) (.tmp rfl))<| .cons (.lenRd (lt1 rfl) (.tmp rfl) Try.underlying23)<| .cons (.move (lt1 rfl) (.const _ _ _))<| ARun.nil _ _ _) ?_
  refine AWP.vc (s' := ⟨[(0,.rd β1 a0.length (a0.flatMap encR93)),(1,.clo (.func 55) [] [.ptr 1 0]),(7,.sc (.int .i64 (a0.length : Int))),(8,.sc (.int .i64 (0 : Int)))],[(1,⟨3,false,[.sc (.int .i64 a1_0_b0)]⟩)]⟩) (VC.sub (.c rfl<| .c rfl<| .c rfl<| .c rfl<| .n _) (.c rfl<| .n _)) ?_
  refine AWP.joinB' (S := fun p_10 : Unit => ⟨[],[(1,⟨3,false,[.sc (.int .i64 a1_0_b0)]⟩)]⟩) h (fun p_10 h => ?_) (fun k_11 h => ?_)
  · refine AWP.seq ?_
    refine AWP.region (.cons (.assign (lt1 rfl) (.const _ _ _))<| ARun.nil _ _ _) ?_
    refine AWP.ret ?_
    obtain rfl := Option.some.inj h
    refine retJ (Res.vc (s' := ⟨[(4,.sc (.int .i64 (-1 : Int)))],[(1,⟨3,false,[.sc (.int .i64 a1_0_b0)]⟩)]⟩) (VC.sub (.c rfl<| .n _) (.c rfl<| .n _)) ?_)
    refine Res.sub (H := [(1,⟨3,false,[.sc (.int .i64 a1_0_b0)]⟩)]) (.c rfl<| .n _) ?_
    exact Res.of rfl (.cons (.tmp rfl) (.nil)) rfl rfl
  · refine AWP.vc (s' := ⟨[(0,.rd β1 a0.length (a0.flatMap encR93)),(1,.clo (.func 55) [] [.ptr 1 0]),(7,.sc (.int .i64 (a0.length : Int))),(8,.sc (.int .i64 (0 : Int)))],[(1,⟨3,false,[.sc (.int .i64 a1_0_b0)]⟩)]⟩) (VC.sub (.c rfl<| .c rfl<| .c rfl<| .c rfl<| .n _) (.c rfl<| .n _)) ?_
    refine AWP.loopM (S := fun x_5 : Int => ⟨[(0,.rd β1 a0.length (a0.flatMap encR93)),(1,.clo (.func 55) [] [.ptr 1 0]),(7,.sc (.int .i64 (a0.length : Int))),(8,.sc (.int .i64 x_5))],[(1,⟨3,false,[.sc (.int .i64 a1_0_b0)]⟩)]⟩) (x := (0 : Int)) (fun nx_6 x_5 h => ?_) h
    unfold m87_L1 at h
    refine AWP.seq ?_
    refine AWP.region (.cons (.lss (lt1 rfl) (.tmp rfl) (.tmp rfl))<| ARun.nil _ _ _) ?_
    refine AWP.vc (s' := ⟨[(0,.rd β1 a0.length (a0.flatMap encR93)),(1,.clo (.func 55) [] [.ptr 1 0]),(7,.sc (.int .i64 (a0.length : Int))),(8,.sc (.int .i64 x_5)),(9,.sc (.bool (decide (x_5 < (a0.length : Int)))))],[(1,⟨3,false,[.sc (.int .i64 a1_0_b0)]⟩)]⟩) (VC.sub (.c rfl<| .c rfl<| .c rfl<| .c rfl<| .c rfl<| .n _) (.c rfl<| .n _)) ?_
    refine AWP.seq ?_
    refine AWP.cond (.tmp rfl) (fun hc => ?_) (fun hc => ?_)
    · have h := iteT hc h
      refine AWP.skip ?_
      refine AWP.seq ?_
      refine AWP.block ?_
      refine AWP.seq ?_
      refine AWP.region (.cons (.move (lt1 rfl) (.tmp rfl))<| .cons (.assign (lt1 rfl) (.tmp rfl))<| ARun.nil _ _ _) ?_
      refine AWP.vc (s' := ⟨[(0,.rd β1 a0.length (a0.flatMap encR93)),(1,.clo (.func 55) [] [.ptr 1 0]),(7,.sc (.int .i64 (a0.length : Int))),(8,.sc (.int .i64 x_5)),(5,.sc (.int .i64 x_5))],[(1,⟨3,false,[.sc (.int .i64 a1_0_b0)]⟩)]⟩) (VC.sub (.c rfl<| .c rfl<| .c rfl<| .c rfl<| .c rfl<| .n _) (.c rfl<| .n _)) ?_
      refine AWP.seq ?_
      obtain ⟨y_7,hy_7,h⟩ := bindS h
      obtain ⟨y_8,hy_8,h⟩ := bindS h
      refine AWP.region (.cons (.move (lt1 rfl) (.tmp rfl))<| .cons (.move (lt1 rfl) (.tmp rfl))<| .cons (.move (lt1 rfl) (.tmp rfl))<| .cons (.indexRd (enc := encR93) (lt1 rfl) (.tmp rfl) (.tmp rfl) Try.underlying23 sz93 encR93_len rfl hy_7)<| .cons (.loadRA (out := [.sc (.int .i64 y_7.f0),.sc (.int .i64 y_7.f1)]) (lt1 rfl) (.tmp rfl) agg93 (Nat.le_of_eq (Eq.symm (encR93_len _))) rfl)<| .cons (.keep (bw := false) (AStep.callV (us' := []) (avs := [.agg [.sc (.int .i64 ((R93.mk y_7.f0 y_7.f1).f0)),.sc (.int .i64 ((R93.mk y_7.f0 y_7.f1).f1))]]) (cs' := [.ptr 1 0]) (σ := fun _ => 1) (bw := false) (lt1 rfl) (.tmp rfl) (c55 n (R93.mk y_7.f0 y_7.f1) a1_0_b0 hy_8) (.nil) (.cons (.tmp rfl) (.ren rfl) (.nil)) (.cons (.ren rfl) (.nil)) (CallOk.mk' (.c rfl (.n)) rfl) (fun _ h => by cases h)) (CallOk.mk' (.c rfl (.n)) rfl) rfl rfl)<| ARun.nil _ _ _) ?_
      refine AWP.vc (s' := ⟨[(0,.rd β1 a0.length (a0.flatMap encR93)),(1,.clo (.func 55) [] [.ptr 1 0]),(7,.sc (.int .i64 (a0.length : Int))),(8,.sc (.int .i64 x_5)),(5,.sc (.int .i64 x_5)),(16,.sc (.bool y_8))],[(1,⟨3,false,[.sc (.int .i64 a1_0_b0)]⟩)]⟩) (VC.sub (.c rfl<| .c rfl<| .c rfl<| .c rfl<| .c rfl<| .c rfl<| .n _) (.c rfl<| .n _)) ?_
      refine AWP.cond (.tmp rfl) (fun hc => ?_) (fun hc => ?_)
      · have h := iteT hc h
        refine AWP.seq ?_
        refine AWP.region (.cons (.move (lt1 rfl) (.tmp rfl))<| .cons (.assign (lt1 rfl) (.tmp rfl))<| ARun.nil _ _ _) ?_
        refine AWP.ret ?_
        obtain rfl := Option.some.inj h
        refine retJ (Res.vc (s' := ⟨[(4,.sc (.int .i64 x_5))],[(1,⟨3,false,[.sc (.int .i64 a1_0_b0)]⟩)]⟩) (VC.sub (.c rfl<| .n _) (.c rfl<| .n _)) ?_)
        refine Res.sub (H := [(1,⟨3,false,[.sc (.int .i64 a1_0_b0)]⟩)]) (.c rfl<| .n _) ?_
        exact Res.of rfl (.cons (.tmp rfl) (.nil)) rfl rfl
      · have h := iteF hc h
        refine AWP.skip ?_
        obtain ⟨t8_9,ht8_9,h⟩ := letS h
        refine AWP.region (.cons (.add (lt1 rfl) (.tmp rfl) (.const _ _ _))<| .cons (.move (lt1 rfl) (.tmp rfl))<| ARun.nil _ _ _) ?_
        exact endJ t8_9 h (by subst ht8_9; exact VC.sub (.c rfl<| .c rfl<| .c rfl<| .c rfl<| .n _) (.c rfl<| .n _))
    · have h := iteF hc h
      refine AWP.exit ?_
      exact endJ () h (VC.sub (.n _) (.c rfl<| .n _))
theorem c57 {β1 : Bool} (n : Nat) (a0 : (List R93)) (a1_0_b0 : Int) {r : Bool} (h : m57 n a0 a1_0_b0 = some r) : Spec Try.prog 57 [1] [.rd β1 a0.length (a0.flatMap encR93),.clo (.func 55) [] [.ptr 1 0]] [(1,⟨3,false,[.sc (.int .i64 a1_0_b0)]⟩)] (.sc (.bool r)) [(1,⟨3,false,[.sc (.int .i64 a1_0_b0)]⟩)] := by
  refine Spec.of (fn := Try.f57) Try.func57 Try.ntmps57 rfl rfl (le1 rfl) (fun w0 Zs Zb T0 ι0 => ?_)
  unfold m57 at h
  refine AWP.seq ?_
  refine AWP.region (.cons (.assign (lt1 rfl) (.const _ _ _))<| ARun.nil _ _ _) ?_
  refine AWP.vc (s' := ⟨[(0,.rd β1 a0.length (a0.flatMap encR93)),(1,.clo (.func 55) [] [.ptr 1 0])],[(1,⟨3,false,[.sc (.int .i64 a1_0_b0)]⟩)]⟩) (VC.sub (.c rfl<| .c rfl<| .n _) (.c rfl<| .n _)) ?_
  refine AWP.seq ?_
  obtain ⟨y_1,hy_1,h⟩ := bindS h
  refine AWP.region (.cons (.move (lt1 rfl) (.tmp rfl))<| .cons (.move (lt1 rfl) (.tmp rfl))<| .cons (.keep (bw := false) (AStep.call (σ := fun _ => 1) (bw := false) (lt1 rfl) (c87 (β1 := β1) n a0 a1_0_b0 hy_1) (.cons (.tmp rfl) (.ren rfl) (.cons (.tmp rfl) (.ren rfl) (.nil))) (CallOk.mk' (.c rfl (.n)) rfl)) (CallOk.mk' (.c rfl (.n)) rfl) rfl rfl)<| .cons (.geq (lt1 rfl) (.tmp rfl) (.const _ _ _))<| .cons (.assign (lt1 rfl) (.tmp rfl))<| ARun.nil _ _ _) ?_
  refine AWP.ret ?_
  obtain rfl := Option.some.inj h
  refine retJ (Res.vc (s' := ⟨[(4,.sc (.bool (decide ((0 : Int) ≤ y_1))))],[(1,⟨3,false,[.sc (.int .i64 a1_0_b0)]⟩)]⟩) (VC.sub (.c rfl<| .n _) (.c rfl<| .n _)) ?_)
  refine Res.sub (H := [(1,⟨3,false,[.sc (.int .i64 a1_0_b0)]⟩)]) (.c rfl<| .n _) ?_
  exact Res.of rfl (.cons (.tmp rfl) (.nil)) rfl rfl
theorem c89o {β1 : Bool} (n : Nat) (a0 : (List Bool)) {r : (List Bool)} (h : m89o n a0 = some r) : Spec Try.prog 89 [] [.rd β1 a0.length (a0.flatMap encB)] [] (.own 1 1 0 r.length) [(1,⟨4,true,r.flatMap encB⟩)] := by
  refine Spec.of (fn := Try.f89) Try.func89 Try.ntmps89 rfl rfl (le1 rfl) (fun w0 Zs Zb T0 ι0 => ?_)
  unfold m89o at h
  refine AWP.seq ?_
  refine AWP.region (.cons (.assign (lt1 rfl) (.const _ _ _))<| ARun.nil _ _ _) ?_
  refine AWP.vc (s' := ⟨[(0,.rd β1 a0.length (a0.flatMap encB))],[]⟩) (VC.sub (.c rfl<| .n _) (.n _)) ?_
  refine AWP.seq ?_
  refine AWP.seq ?_
  refine AWP.regionE (S := fun q_1 => ⟨[(0,.rd β1 a0.length (a0.flatMap encB)),(4,.sc (.bool (decide (a0.length = 0 ∧ q_1 = 0))))],[]⟩) (.cons (.move (lt1 rfl) (.tmp rfl))<| .consE (AStepE.eqNil0 (lt1 rfl) (.tmp rfl) Try.underlying130)<| fun q_1 => ARunE.nilV q_1 (VC.sub (.c rfl<| .c rfl<| .n _) (.n _))) (fun q_1 => ?_)
  refine AWP.cond (.tmp rfl) (fun hc => ?_) (fun hc => ?_)
  · have h := cloneNil hc h
    refine AWP.seq ?_
    refine AWP.region (.cons (.assign (lt1 rfl) (.const _ _ _))<| ARun.nil _ _ _) ?_
    refine AWP.ret ?_
    obtain rfl := Option.some.inj h
    refine retJ (Res.vc (s' := ⟨[(2,.own 1 1 0 ([] : List Bool).length)],[(1,⟨4,true,([] : List Bool).flatMap encB⟩)]⟩) (VC.trans (VC.nilOwn (d := 2) (t := 1) (sz := 1) (E := 4) rfl (nm rfl)) (VC.sub (.c rfl<| .n _) (.c rfl<| .n _))) ?_)
    refine Res.sub (H := [(1,⟨4,true,([] : List Bool).flatMap encB⟩)]) (.c rfl<| .n _) ?_
    exact Res.of rfl (.cons (.tmp rfl) (.nil)) rfl rfl
  · refine AWP.skip ?_
    refine AWP.seq ?_
    obtain ⟨l1_2,hl1_2,h⟩ := bindS h
    refine AWP.region (.cons (.buildSlice (t := 1) (out := ([] : List Bool).flatMap encB) (lt1 rfl) (nm rfl) (.nil) Try.underlying130 zero4 el4 (by decide) (by decide) rfl (still_all encB_still _))<| .cons (.move (lt1 rfl) (.tmp rfl))<| .cons (.app (enc := encB) (lt1 rfl) (nm rfl) (.tmp rfl) (Src.rd (.tmp rfl) (flatMap_length encB_len _) (one_all encB_one _) (.inr (scal_all encB_scal _))) Try.underlying130 ⟨_,Try.underlying130,by intro k hk; cases hk⟩ el4 rfl encB_len rfl rfl (by decide) hl1_2)<| .cons (.assign (lt1 rfl) (.tmp rfl))<| ARun.nil _ _ _) ?_
    refine AWP.ret ?_
    obtain rfl := Option.some.inj h
    refine retJ (Res.vc (s' := ⟨[(2,.own 1 1 0 l1_2.length)],[(1,⟨4,true,l1_2.flatMap encB⟩)]⟩) (VC.sub (.c rfl<| .n _) (.c rfl<| .n _)) ?_)
    refine Res.sub (H := [(1,⟨4,true,l1_2.flatMap encB⟩)]) (.c rfl<| .n _) ?_
    exact Res.of rfl (.cons (.tmp rfl) (.nil)) rfl rfl
theorem c62 {β1 : Bool} {β2 : Bool} {β3 : Bool} (n : Nat) (a0 : R24) (a1 : (List Int)) {r : (List Int)} (h : m62 n a0 a1 = some r) : Spec Try.prog 62 [] [.agg [.rd β1 a0.Points.length (a0.Points.flatMap encR45),.rd β2 a0.Before.length (a0.Before.flatMap encR93)],.rd β3 a1.length (a1.flatMap (encI .i64))] [] (.rd false r.length (r.flatMap (encI .i64))) [] := by
  refine Spec.of (fn := Try.f62) Try.func62 Try.ntmps62 rfl rfl (le1 rfl) (fun w0 Zs Zb T0 ι0 => ?_)
  unfold m62 at h
  refine AWP.seq ?_
  refine AWP.region (.cons (.box (t := 1) (n := 2) (lt1 rfl) (nm rfl) (.tmp rfl) (by first | exact ⟨rfl,rfl⟩ | rfl) rfl)<| .cons (.assign (lt1 rfl) (.const _ _ _))<| ARun.nil _ _ _) ?_
  refine AWP.vc (s' := ⟨[(1,.rd β3 a1.length (a1.flatMap (encI .i64))),(2,.ptr 1 0)],[(1,⟨32,false,[.rd β1 a0.Points.length (a0.Points.flatMap encR45),.rd β2 a0.Before.length (a0.Before.flatMap encR93)]⟩)]⟩) (VC.sub (.c rfl<| .c rfl<| .n _) (.c rfl<| .n _)) ?_
  refine AWP.seq ?_
  obtain ⟨l2_1,hl2_1,h⟩ := bindS h
  refine AWP.region (.cons (.fieldP (lt1 rfl) (.tmp rfl) fld32_0)<| .cons (.loadP (lt1 rfl) (.tmp rfl) one22 rfl rfl rfl)<| .cons (.lenRd (lt1 rfl) (.tmp rfl) Try.underlying22)<| .cons (.mkS (enc := encB) (t := 2) (lt1 rfl) (nm rfl) (.tmp rfl) (.tmp rfl) Try.underlying130 zero4 el4 rfl encB_len (by decide) hl2_1)<| .cons (.assign (lt1 rfl) (.tmp rfl))<| ARun.nil _ _ _) ?_
  refine AWP.vc (s' := ⟨[(1,.rd β3 a1.length (a1.flatMap (encI .i64))),(2,.ptr 1 0),(5,.own 2 1 0 l2_1.length)],[(2,⟨4,true,l2_1.flatMap encB⟩),(1,⟨32,false,[.rd β1 a0.Points.length (a0.Points.flatMap encR45),.rd β2 a0.Before.length (a0.Before.flatMap encR93)]⟩)]⟩) (VC.sub (.c rfl<| .c rfl<| .c rfl<| .n _) (.c rfl<| .c rfl<| .n _)) ?_
  refine AWP.seq ?_
  refine AWP.seq ?_
  refine AWP.region (.cons (.move (lt1 rfl) (.tmp rfl))<| .cons (.lenRd (lt1 rfl) (.tmp rfl) Try.underlying28)<| .cons (.move (lt1 rfl) (.const _ _ _))<| ARun.nil _ _ _) ?_
  refine AWP.vc (s' := ⟨[(2,.ptr 1 0),(5,.own 2 1 0 l2_1.length),(18,.rd β3 a1.length (a1.flatMap (encI .i64))),(19,.sc (.int .i64 (a1.length : Int))),(20,.sc (.int .i64 (0 : Int)))],[(2,⟨4,true,l2_1.flatMap encB⟩),(1,⟨32,false,[.rd β1 a0.Points.length (a0.Points.flatMap encR45),.rd β2 a0.Before.length (a0.Before.flatMap encR93)]⟩)]⟩) (VC.sub (.c rfl<| .c rfl<| .c rfl<| .c rfl<| .c rfl<| .n _) (.c rfl<| .c rfl<| .n _)) ?_
  refine AWP.joinB' (S := fun p_18 : (List Bool) => ⟨[(2,.ptr 1 0),(5,.own 2 1 0 p_18.length)],[(1,⟨32,false,[.rd β1 a0.Points.length (a0.Points.flatMap encR45),.rd β2 a0.Before.length (a0.Before.flatMap encR93)]⟩),(2,⟨4,true,p_18.flatMap encB⟩)]⟩) h (fun p_18 h => ?_) (fun k_19 h => ?_)
  · refine AWP.seq ?_
    obtain ⟨y_20,hy_20,h⟩ := bindS h
    refine AWP.region (.cons (.move (lt1 rfl) (.tmp rfl))<| .cons (.call (σ := fun _ => 3) (bw := true) (lt1 rfl) (c89o (β1 := true) n p_18 hy_20) (.cons (.tmp rfl) (.lendRow rfl rfl encB_len rfl) (.nil)) (CallOk.mk' (.n) rfl))<| .cons (.assign (lt1 rfl) (.tmp rfl))<| ARun.nil _ _ _) ?_
    refine AWP.vc (s' := ⟨[(2,.ptr 1 0),(5,.own 2 1 0 p_18.length),(8,.own 3 1 0 y_20.length)],[(3,⟨4,true,y_20.flatMap encB⟩),(1,⟨32,false,[.rd β1 a0.Points.length (a0.Points.flatMap encR45),.rd β2 a0.Before.length (a0.Before.flatMap encR93)]⟩),(2,⟨4,true,p_18.flatMap encB⟩)]⟩) (VC.sub (.c rfl<| .c rfl<| .c rfl<| .n _) (.c rfl<| .c rfl<| .c rfl<| .n _)) ?_
    refine AWP.seq ?_
    refine AWP.seq ?_
    refine AWP.region (.cons (.fieldP (lt1 rfl) (.tmp rfl) fld32_1)<| .cons (.loadP (lt1 rfl) (.tmp rfl) one23 rfl rfl rfl)<| .cons (.lenRd (lt1 rfl) (.tmp rfl) Try.underlying23)<| .cons (.move (lt1 rfl) (.const _ _ _))<| ARun.nil _ _ _) ?_
    refine AWP.vc (s' := ⟨[(5,.own 2 1 0 p_18.length),(8,.own 3 1 0 y_20.length),(31,.rd β2 a0.Before.length (a0.Before.flatMap encR93)),(32,.sc (.int .i64 (a0.Before.length : Int))),(33,.sc (.int .i64 (0 : Int)))],[(3,⟨4,true,y_20.flatMap encB⟩),(2,⟨4,true,p_18.flatMap encB⟩)]⟩) (VC.sub (.c rfl<| .c rfl<| .c rfl<| .c rfl<| .c rfl<| .n _) (.c rfl<| .c rfl<| .n _)) ?_
    refine AWP.joinB' (S := fun p_46 : (List Bool) => ⟨[(8,.own 3 1 0 p_46.length)],[(3,⟨4,true,p_46.flatMap encB⟩)]⟩) h (fun p_46 h => ?_) (fun k_47 h => ?_)
    · refine AWP.seq ?_
      refine AWP.region (.cons (.assign (lt1 rfl) (.const _ _ _))<| ARun.nil _ _ _) ?_
      refine AWP.vc (s' := ⟨[(8,.own 3 1 0 p_46.length),(11,.sc (.slice none 0 0))],[(3,⟨4,true,p_46.flatMap encB⟩)]⟩) (VC.sub (.c rfl<| .c rfl<| .n _) (.c rfl<| .n _)) ?_
      refine AWP.seq ?_
      refine AWP.seq ?_
      refine AWP.region (.cons (.move (lt1 rfl) (.tmp rfl))<| .cons (.lenOwn (lt1 rfl) (.tmp rfl) Try.underlying130)<| .cons (.move (lt1 rfl) (.const _ _ _))<| ARun.nil _ _ _) ?_
      refine AWP.vc (s' := ⟨[(11,.sc (.slice none 0 0)),(48,.own 3 1 0 p_46.length),(49,.sc (.int .i64 (p_46.length : Int))),(50,.sc (.int .i64 (0 : Int)))],[(3,⟨4,true,p_46.flatMap encB⟩)]⟩) (VC.sub (.c rfl<| .c rfl<| .c rfl<| .c rfl<| .n _) (.c rfl<| .n _)) ?_
      refine AWP.joinB' (S := fun p_67 : (List Int) => ⟨[(11,.own 5 1 0 p_67.length)],[(5,⟨3,true,p_67.flatMap (encI .i64)⟩)]⟩) h (fun p_67 h => ?_) (fun k_68 h => ?_)
      · refine AWP.seq ?_
        refine AWP.region (.cons (.move (lt1 rfl) (.tmp rfl))<| .cons (.assign (lt1 rfl) (.tmp rfl))<| ARun.nil _ _ _) ?_
        refine AWP.ret ?_
        obtain rfl := Option.some.inj h
        refine retJ (Res.vc (s' := ⟨[(4,.rd false p_67.length (p_67.flatMap (encI .i64)))],[]⟩) (VC.trans (VC.frz (d := 4) (t := 5) rfl rfl (encI_len .i64)) (VC.sub (.c rfl<| .n _) (.n _))) ?_)
        refine Res.drop (H := []) rfl ?_
        exact Res.of rfl (.cons (.tmp rfl) (.nil)) rfl rfl
      · refine AWP.vc (VC.nilOwn (d := 11) (t := 5) (sz := 1) (E := 3) rfl (nm rfl)) ?_
        refine AWP.vc (s' := ⟨[(11,.own 5 1 0 ([] : List Int).length),(48,.own 3 1 0 p_46.length),(49,.sc (.int .i64 (p_46.length : Int))),(50,.sc (.int .i64 (0 : Int)))],[(3,⟨4,true,p_46.flatMap encB⟩),(5,⟨3,true,([] : List Int).flatMap (encI .i64)⟩)]⟩) (VC.sub (.c rfl<| .c rfl<| .c rfl<| .c rfl<| .n _) (.c rfl<| .c rfl<| .n _)) ?_
        refine AWP.loopM (S := fun x_60 : Int × (List Int) => ⟨[(11,.own 5 1 0 x_60.2.length),(48,.own 3 1 0 p_46.length),(49,.sc (.int .i64 (p_46.length : Int))),(50,.sc (.int .i64 x_60.1))],[(3,⟨4,true,p_46.flatMap encB⟩),(5,⟨3,true,x_60.2.flatMap (encI .i64)⟩)]⟩) (x := ((0 : Int),([] : List Int))) (fun nx_61 x_60 h => ?_) h
        unfold m62_L3 at h
        refine AWP.seq ?_
        refine AWP.region (.cons (.lss (lt1 rfl) (.tmp rfl) (.tmp rfl))<| ARun.nil _ _ _) ?_
        refine AWP.vc (s' := ⟨[(11,.own 5 1 0 x_60.2.length),(48,.own 3 1 0 p_46.length),(49,.sc (.int .i64 (p_46.length : Int))),(50,.sc (.int .i64 x_60.1)),(51,.sc (.bool (decide (x_60.1 < (p_46.length : Int)))))],[(3,⟨4,true,p_46.flatMap encB⟩),(5,⟨3,true,x_60.2.flatMap (encI .i64)⟩)]⟩) (VC.sub (.c rfl<| .c rfl<| .c rfl<| .c rfl<| .c rfl<| .n _) (.c rfl<| .c rfl<| .n _)) ?_
        refine AWP.seq ?_
        refine AWP.cond (.tmp rfl) (fun hc => ?_) (fun hc => ?_)
        · have h := iteT hc h
          refine AWP.skip ?_
          refine AWP.seq ?_
          refine AWP.block ?_
          refine AWP.seq ?_
          obtain ⟨y_62,hy_62,h⟩ := bindS h
          refine AWP.region (.cons (.move (lt1 rfl) (.tmp rfl))<| .cons (.idxOwn (lt1 rfl) (.tmp rfl) (.tmp rfl) Try.underlying130 sz4 rfl hy_62)<| .cons (.loadP (lt1 rfl) (.tmp rfl) one4 rfl (cell_at1 encB_len hy_62) rfl)<| .cons (.assign (lt1 rfl) (.tmp rfl))<| .cons (.assign (lt1 rfl) (.tmp rfl))<| ARun.nil _ _ _) ?_
          refine AWP.vc (s' := ⟨[(11,.own 5 1 0 x_60.2.length),(48,.own 3 1 0 p_46.length),(49,.sc (.int .i64 (p_46.length : Int))),(50,.sc (.int .i64 x_60.1)),(12,.sc (.int .i64 x_60.1)),(13,.sc (.bool y_62))],[(3,⟨4,true,p_46.flatMap encB⟩),(5,⟨3,true,x_60.2.flatMap (encI .i64)⟩)]⟩) (VC.sub (.c rfl<| .c rfl<| .c rfl<| .c rfl<| .c rfl<| .c rfl<| .n _) (.c rfl<| .c rfl<| .n _)) ?_
          refine AWP.seq ?_
          refine AWP.region (.cons (.move (lt1 rfl) (.tmp rfl))<| .cons (.not (lt1 rfl) (.tmp rfl))<| ARun.nil _ _ _) ?_
          refine AWP.vc (s' := ⟨[(11,.own 5 1 0 x_60.2.length),(48,.own 3 1 0 p_46.length),(49,.sc (.int .i64 (p_46.length : Int))),(50,.sc (.int .i64 x_60.1)),(12,.sc (.int .i64 x_60.1)),(56,.sc (.bool (!y_62)))],[(3,⟨4,true,p_46.flatMap encB⟩),(5,⟨3,true,x_60.2.flatMap (encI .i64)⟩)]⟩) (VC.sub (.c rfl<| .c rfl<| .c rfl<| .c rfl<| .c rfl<| .c rfl<| .n _) (.c rfl<| .c rfl<| .n _)) ?_
          refine AWP.join' (S := fun p_64 : (List Int) => ⟨[(11,.own 5 1 0 p_64.length),(48,.own 3 1 0 p_46.length),(49,.sc (.int .i64 (p_46.length : Int))),(50,.sc (.int .i64 x_60.1))],[(3,⟨4,true,p_46.flatMap encB⟩),(5,⟨3,true,p_64.flatMap (encI .i64)⟩)]⟩) h (fun p_64 h => ?_) (fun k_65 h => ?_)
          · obtain ⟨t50_66,ht50_66,h⟩ := letS h
            refine AWP.region (.cons (.add (lt1 rfl) (.tmp rfl) (.const _ _ _))<| .cons (.move (lt1 rfl) (.tmp rfl))<| ARun.nil _ _ _) ?_
            exact endJ (t50_66,p_64) h (by subst ht50_66; exact VC.sub (.c rfl<| .c rfl<| .c rfl<| .c rfl<| .n _) (.c rfl<| .c rfl<| .n _))
          · refine AWP.cond (.tmp rfl) (fun hc => ?_) (fun hc => ?_)
            · have h := iteT hc h
              obtain ⟨l5_63,hl5_63,h⟩ := bindS h
              refine AWP.region (.cons (.move (lt1 rfl) (.tmp rfl))<| .cons (.move (lt1 rfl) (.tmp rfl))<| .cons (.buildSlice (t := 6) (out := ([x_60.1] : List Int).flatMap (encI .i64)) (lt1 rfl) (nm rfl) (.cons (.tmp rfl) (by first | exact ⟨rfl,rfl⟩ | rfl) (.nil)) Try.underlying28 zero3 el3 (by decide) (by decide) rfl (still_all (encI_still .i64) _))<| .cons (.app (enc := (encI .i64)) (lt1 rfl) (nm rfl) (.tmp rfl) (Src.own (.tmp rfl) rfl (lendAll (encI_len .i64) _) (flatMap_length (encI_len .i64) _) (one_all (encI_one .i64) _) (.inl rfl)) Try.underlying28 ⟨_,Try.underlying28,by intro k hk; cases hk⟩ el3 rfl (encI_len .i64) rfl rfl (by decide) hl5_63)<| .cons (.assign (lt1 rfl) (.tmp rfl))<| ARun.nil _ _ _) ?_
              exact endJ l5_63 h (VC.sub (.c rfl<| .c rfl<| .c rfl<| .c rfl<| .n _) (.c rfl<| .c rfl<| .n _))
            · have h := iteF hc h
              refine AWP.skip ?_
              exact endJ x_60.2 h (VC.sub (.c rfl<| .c rfl<| .c rfl<| .c rfl<| .n _) (.c rfl<| .c rfl<| .n _))
        · have h := iteF hc h
          refine AWP.exit ?_
          exact endJ x_60.2 h (VC.sub (.c rfl<| .n _) (.c rfl<| .n _))
    · refine AWP.vc (s' := ⟨[(5,.own 2 1 0 p_18.length),(8,.own 3 1 0 y_20.length),(31,.rd β2 a0.Before.length (a0.Before.flatMap encR93)),(32,.sc (.int .i64 (a0.Before.length : Int))),(33,.sc (.int .i64 (0 : Int)))],[(2,⟨4,true,p_18.flatMap encB⟩),(3,⟨4,true,y_20.flatMap encB⟩)]⟩) (VC.sub (.c rfl<| .c rfl<| .c rfl<| .c rfl<| .c rfl<| .n _) (.c rfl<| .c rfl<| .n _)) ?_
      refine AWP.loopM (S := fun x_37 : Int × (List Bool) => ⟨[(5,.own 2 1 0 p_18.length),(8,.own 3 1 0 x_37.2.length),(31,.rd β2 a0.Before.length (a0.Before.flatMap encR93)),(32,.sc (.int .i64 (a0.Before.length : Int))),(33,.sc (.int .i64 x_37.1))],[(2,⟨4,true,p_18.flatMap encB⟩),(3,⟨4,true,x_37.2.flatMap encB⟩)]⟩) (x := ((0 : Int),y_20)) (fun nx_38 x_37 h => ?_) h
      unfold m62_L2 at h
      refine AWP.seq ?_
      refine AWP.region (.cons (.lss (lt1 rfl) (.tmp rfl) (.tmp rfl))<| ARun.nil _ _ _) ?_
      refine AWP.vc (s' := ⟨[(5,.own 2 1 0 p_18.length),(8,.own 3 1 0 x_37.2.length),(31,.rd β2 a0.Before.length (a0.Before.flatMap encR93)),(32,.sc (.int .i64 (a0.Before.length : Int))),(33,.sc (.int .i64 x_37.1)),(34,.sc (.bool (decide (x_37.1 < (a0.Before.length : Int)))))],[(2,⟨4,true,p_18.flatMap encB⟩),(3,⟨4,true,x_37.2.flatMap encB⟩)]⟩) (VC.sub (.c rfl<| .c rfl<| .c rfl<| .c rfl<| .c rfl<| .c rfl<| .n _) (.c rfl<| .c rfl<| .n _)) ?_
      refine AWP.seq ?_
      refine AWP.cond (.tmp rfl) (fun hc => ?_) (fun hc => ?_)
      · have h := iteT hc h
        refine AWP.skip ?_
        refine AWP.seq ?_
        refine AWP.block ?_
        refine AWP.seq ?_
        obtain ⟨y_39,hy_39,h⟩ := bindS h
        refine AWP.region (.cons (.indexRd (enc := encR93) (lt1 rfl) (.tmp rfl) (.tmp rfl) Try.underlying23 sz93 encR93_len rfl hy_39)<| .cons (.loadRA (out := [.sc (.int .i64 y_39.f0),.sc (.int .i64 y_39.f1)]) (lt1 rfl) (.tmp rfl) agg93 (Nat.le_of_eq (Eq.symm (encR93_len _))) rfl)<| .cons (.alloc (t := 4) (k := ⟨93,false,[.sc (.int .i64 (0 : Int)),.sc (.int .i64 (0 : Int))]⟩) (lt1 rfl) (nm rfl) zero93 rfl rfl)<| .cons (.storePA (.tmp rfl) (.tmp rfl) sz93 rfl rfl (le1 rfl) (one_lit rfl) (by intro h; cases h) rfl)<| ARun.nil _ _ _) ?_
        refine AWP.vc (s' := ⟨[(5,.own 2 1 0 p_18.length),(8,.own 3 1 0 x_37.2.length),(31,.rd β2 a0.Before.length (a0.Before.flatMap encR93)),(32,.sc (.int .i64 (a0.Before.length : Int))),(33,.sc (.int .i64 x_37.1)),(10,.ptr 4 0)],[(4,⟨93,false,[.sc (.int .i64 y_39.f0),.sc (.int .i64 y_39.f1)]⟩),(2,⟨4,true,p_18.flatMap encB⟩),(3,⟨4,true,x_37.2.flatMap encB⟩)]⟩) (VC.sub (.c rfl<| .c rfl<| .c rfl<| .c rfl<| .c rfl<| .c rfl<| .n _) (.c rfl<| .c rfl<| .c rfl<| .n _)) ?_
        refine AWP.seq ?_
        obtain ⟨y_40,hy_40,h⟩ := bindS h
        refine AWP.region (.cons (.move (lt1 rfl) (.tmp rfl))<| .cons (.idxP (lt1 rfl) (.tmp rfl) (.const _ _ _) Try.underlying93 sz3 (by decide) rfl)<| .cons (.loadP (lt1 rfl) (.tmp rfl) one3 rfl rfl rfl)<| .cons (.idxOwn (lt1 rfl) (.tmp rfl) (.tmp rfl) Try.underlying130 sz4 rfl hy_40)<| .cons (.loadP (lt1 rfl) (.tmp rfl) one4 rfl (cell_at1 encB_len hy_40) rfl)<| .cons (.not (lt1 rfl) (.tmp rfl))<| ARun.nil _ _ _) ?_
        refine AWP.vc (s' := ⟨[(5,.own 2 1 0 p_18.length),(8,.own 3 1 0 x_37.2.length),(31,.rd β2 a0.Before.length (a0.Before.flatMap encR93)),(32,.sc (.int .i64 (a0.Before.length : Int))),(33,.sc (.int .i64 x_37.1)),(10,.ptr 4 0),(42,.sc (.bool (!y_40)))],[(4,⟨93,false,[.sc (.int .i64 y_39.f0),.sc (.int .i64 y_39.f1)]⟩),(2,⟨4,true,p_18.flatMap encB⟩),(3,⟨4,true,x_37.2.flatMap encB⟩)]⟩) (VC.sub (.c rfl<| .c rfl<| .c rfl<| .c rfl<| .c rfl<| .c rfl<| .c rfl<| .n _) (.c rfl<| .c rfl<| .c rfl<| .n _)) ?_
        refine AWP.join' (S := fun p_43 : (List Bool) => ⟨[(5,.own 2 1 0 p_18.length),(8,.own 3 1 0 p_43.length),(31,.rd β2 a0.Before.length (a0.Before.flatMap encR93)),(32,.sc (.int .i64 (a0.Before.length : Int))),(33,.sc (.int .i64 x_37.1))],[(2,⟨4,true,p_18.flatMap encB⟩),(3,⟨4,true,p_43.flatMap encB⟩)]⟩) h (fun p_43 h => ?_) (fun k_44 h => ?_)
        · obtain ⟨t33_45,ht33_45,h⟩ := letS h
          refine AWP.region (.cons (.add (lt1 rfl) (.tmp rfl) (.const _ _ _))<| .cons (.move (lt1 rfl) (.tmp rfl))<| ARun.nil _ _ _) ?_
          exact endJ (t33_45,p_43) h (by subst ht33_45; exact VC.sub (.c rfl<| .c rfl<| .c rfl<| .c rfl<| .c rfl<| .n _) (.c rfl<| .c rfl<| .n _))
        · refine AWP.cond (.tmp rfl) (fun hc => ?_) (fun hc => ?_)
          · have h := iteT hc h
            obtain ⟨y_41,hy_41,h⟩ := bindS h
            obtain ⟨l3_42,hl3_42,h⟩ := bindS h
            refine AWP.region (.cons (.move (lt1 rfl) (.tmp rfl))<| .cons (.idxP (lt1 rfl) (.tmp rfl) (.const _ _ _) Try.underlying93 sz3 (by decide) rfl)<| .cons (.loadP (lt1 rfl) (.tmp rfl) one3 rfl rfl rfl)<| .cons (.idxOwn (lt1 rfl) (.tmp rfl) (.tmp rfl) Try.underlying130 sz4 rfl hy_41)<| .cons (.storeP (.tmp rfl) (.const _ _ _) sz4 rfl (lt_at1 encB_len hy_41) rfl (fun _ => rfl) (set_at1 encB_len hl3_42 rfl))<| ARun.nil _ _ _) ?_
            exact endJ l3_42 h (VC.sub (.c rfl<| .c (lenC (Eq.symm (setLen hl3_42)) rfl)<| .c rfl<| .c rfl<| .c rfl<| .n _) (.c rfl<| .c rfl<| .n _))
          · have h := iteF hc h
            refine AWP.skip ?_
            exact endJ x_37.2 h (VC.sub (.c rfl<| .c rfl<| .c rfl<| .c rfl<| .c rfl<| .n _) (.c rfl<| .c rfl<| .n _))
      · have h := iteF hc h
        refine AWP.exit ?_
        exact endJ x_37.2 h (VC.sub (.c rfl<| .n _) (.c rfl<| .n _))
  · refine AWP.vc (s' := ⟨[(2,.ptr 1 0),(5,.own 2 1 0 l2_1.length),(18,.rd β3 a1.length (a1.flatMap (encI .i64))),(19,.sc (.int .i64 (a1.length : Int))),(20,.sc (.int .i64 (0 : Int)))],[(1,⟨32,false,[.rd β1 a0.Points.length (a0.Points.flatMap encR45),.rd β2 a0.Before.length (a0.Before.flatMap encR93)]⟩),(2,⟨4,true,l2_1.flatMap encB⟩)]⟩) (VC.sub (.c rfl<| .c rfl<| .c rfl<| .c rfl<| .c rfl<| .n _) (.c rfl<| .c rfl<| .n _)) ?_
    refine AWP.loopM (S := fun x_12 : Int × (List Bool) => ⟨[(2,.ptr 1 0),(5,.own 2 1 0 x_12.2.length),(18,.rd β3 a1.length (a1.flatMap (encI .i64))),(19,.sc (.int .i64 (a1.length : Int))),(20,.sc (.int .i64 x_12.1))],[(1,⟨32,false,[.rd β1 a0.Points.length (a0.Points.flatMap encR45),.rd β2 a0.Before.length (a0.Before.flatMap encR93)]⟩),(2,⟨4,true,x_12.2.flatMap encB⟩)]⟩) (x := ((0 : Int),l2_1)) (fun nx_13 x_12 h => ?_) h
    unfold m62_L1 at h
    refine AWP.seq ?_
    refine AWP.region (.cons (.lss (lt1 rfl) (.tmp rfl) (.tmp rfl))<| ARun.nil _ _ _) ?_
    refine AWP.vc (s' := ⟨[(2,.ptr 1 0),(5,.own 2 1 0 x_12.2.length),(18,.rd β3 a1.length (a1.flatMap (encI .i64))),(19,.sc (.int .i64 (a1.length : Int))),(20,.sc (.int .i64 x_12.1)),(21,.sc (.bool (decide (x_12.1 < (a1.length : Int)))))],[(1,⟨32,false,[.rd β1 a0.Points.length (a0.Points.flatMap encR45),.rd β2 a0.Before.length (a0.Before.flatMap encR93)]⟩),(2,⟨4,true,x_12.2.flatMap encB⟩)]⟩) (VC.sub (.c rfl<| .c rfl<| .c rfl<| .c rfl<| .c rfl<| .c rfl<| .n _) (.c rfl<| .c rfl<| .n _)) ?_
    refine AWP.seq ?_
    refine AWP.cond (.tmp rfl) (fun hc => ?_) (fun hc => ?_)
    · have h := iteT hc h
      refine AWP.skip ?_
      refine AWP.seq ?_
      refine AWP.block ?_
      refine AWP.seq ?_
      obtain ⟨y_14,hy_14,h⟩ := bindS h
      refine AWP.region (.cons (.indexRd (enc := (encI .i64)) (lt1 rfl) (.tmp rfl) (.tmp rfl) Try.underlying28 sz3 (encI_len .i64) rfl hy_14)<| .cons (.loadR (v := .sc (.int .i64 y_14)) (lt1 rfl) (.tmp rfl) one3 rfl)<| .cons (.assign (lt1 rfl) (.tmp rfl))<| ARun.nil _ _ _) ?_
      refine AWP.vc (s' := ⟨[(2,.ptr 1 0),(5,.own 2 1 0 x_12.2.length),(18,.rd β3 a1.length (a1.flatMap (encI .i64))),(19,.sc (.int .i64 (a1.length : Int))),(20,.sc (.int .i64 x_12.1)),(7,.sc (.int .i64 y_14))],[(1,⟨32,false,[.rd β1 a0.Points.length (a0.Points.flatMap encR45),.rd β2 a0.Before.length (a0.Before.flatMap encR93)]⟩),(2,⟨4,true,x_12.2.flatMap encB⟩)]⟩) (VC.sub (.c rfl<| .c rfl<| .c rfl<| .c rfl<| .c rfl<| .c rfl<| .n _) (.c rfl<| .c rfl<| .n _)) ?_
      obtain ⟨y_15,hy_15,h⟩ := bindS h
      obtain ⟨l2_16,hl2_16,h⟩ := bindS h
      refine AWP.region (.cons (.move (lt1 rfl) (.tmp rfl))<| .cons (.move (lt1 rfl) (.tmp rfl))<| .cons (.idxOwn (lt1 rfl) (.tmp rfl) (.tmp rfl) Try.underlying130 sz4 rfl hy_15)<| .cons (.storeP (.tmp rfl) (.const _ _ _) sz4 rfl (lt_at1 encB_len hy_15) rfl (fun _ => rfl) (set_at1 encB_len hl2_16 rfl))<| ARun.nil _ _ _) ?_
      refine AWP.vc (s' := ⟨[(2,.ptr 1 0),(5,.own 2 1 0 l2_16.length),(18,.rd β3 a1.length (a1.flatMap (encI .i64))),(19,.sc (.int .i64 (a1.length : Int))),(20,.sc (.int .i64 x_12.1))],[(1,⟨32,false,[.rd β1 a0.Points.length (a0.Points.flatMap encR45),.rd β2 a0.Before.length (a0.Before.flatMap encR93)]⟩),(2,⟨4,true,l2_16.flatMap encB⟩)]⟩) (VC.sub (.c rfl<| .c (lenC (Eq.symm (setLen hl2_16)) rfl)<| .c rfl<| .c rfl<| .c rfl<| .n _) (.c rfl<| .c rfl<| .n _)) ?_
      obtain ⟨t20_17,ht20_17,h⟩ := letS h
      refine AWP.region (.cons (.add (lt1 rfl) (.tmp rfl) (.const _ _ _))<| .cons (.move (lt1 rfl) (.tmp rfl))<| ARun.nil _ _ _) ?_
      exact endJ (t20_17,l2_16) h (by subst ht20_17; exact VC.sub (.c rfl<| .c rfl<| .c rfl<| .c rfl<| .c rfl<| .n _) (.c rfl<| .c rfl<| .n _))
    · have h := iteF hc h
      refine AWP.exit ?_
      exact endJ x_12.2 h (VC.sub (.c rfl<| .c rfl<| .n _) (.c rfl<| .c rfl<| .n _))
theorem c59 {β1 : Bool} (n : Nat) (a0 : (List Int)) {r : Int} (h : m59 n a0 = some r) : Spec Try.prog 59 [] [.rd β1 a0.length (a0.flatMap (encI .i64))] [] (.sc (.int .i64 r)) [] := by
  refine Spec.of (fn := Try.f59) Try.func59 Try.ntmps59 rfl rfl (le1 rfl) (fun w0 Zs Zb T0 ι0 => ?_)
  unfold m59 at h
  refine AWP.seq ?_
  refine AWP.region (.cons (.assign (lt1 rfl) (.const _ _ _))<| ARun.nil _ _ _) ?_
  refine AWP.vc (s' := ⟨[(0,.rd β1 a0.length (a0.flatMap (encI .i64)))],[]⟩) (VC.sub (.c rfl<| .n _) (.n _)) ?_
  refine AWP.seq ?_
  obtain ⟨y_1,hy_1,h⟩ := bindS h
  refine AWP.region (.cons (.move (lt1 rfl) (.tmp rfl))<| .cons (.indexRd (enc := (encI .i64)) (lt1 rfl) (.tmp rfl) (.const _ _ _) Try.underlying28 sz3 (encI_len .i64) rfl hy_1)<| .cons (.loadR (v := .sc (.int .i64 y_1)) (lt1 rfl) (.tmp rfl) one3 rfl)<| .cons (.assign (lt1 rfl) (.tmp rfl))<| ARun.nil _ _ _) ?_
  refine AWP.ret ?_
  obtain rfl := Option.some.inj h
  refine retJ (Res.vc (s' := ⟨[(2,.sc (.int .i64 y_1))],[]⟩) (VC.sub (.c rfl<| .n _) (.n _)) ?_)
  refine Res.drop (H := []) rfl ?_
  exact Res.of rfl (.cons (.tmp rfl) (.nil)) rfl rfl
theorem c58 {β1 : Bool} {β2 : Bool} (n : Nat) (a0 : R24) {r : ((List Int) × Bool)} (h : m58 n a0 = some r) : Spec Try.prog 58 [] [.agg [.rd β1 a0.Points.length (a0.Points.flatMap encR45),.rd β2 a0.Before.length (a0.Before.flatMap encR93)],.clo (.func 59) [] []] [] (.tup [.rd false r.1.length (r.1.flatMap (encI .i64)),.sc (.bool r.2)]) [] := by
  refine Spec.of (fn := Try.f58) Try.func58 Try.ntmps58 rfl rfl (le1 rfl) (fun w0 Zs Zb T0 ι0 => ?_)
  unfold m58 at h
  refine AWP.seq ?_
  refine AWP.region (.cons (.box (t := 1) (n := 2) (lt1 rfl) (nm rfl) (.tmp rfl) (by first | exact ⟨rfl,rfl⟩ | rfl) rfl)<| .cons (.assign (lt1 rfl) (.const _ _ _))<| .cons (.assign (lt1 rfl) (.const _ _ _))<| ARun.nil _ _ _) ?_
  refine AWP.vc (s' := ⟨[(1,.clo (.func 59) [] []),(2,.ptr 1 0)],[(1,⟨32,false,[.rd β1 a0.Points.length (a0.Points.flatMap encR45),.rd β2 a0.Before.length (a0.Before.flatMap encR93)]⟩)]⟩) (VC.sub (.c rfl<| .c rfl<| .n _) (.c rfl<| .n _)) ?_
  refine AWP.seq ?_
  refine AWP.region (.cons (.buildSlice (t := 2) (out := ([(0 : Int)] : List Int).flatMap (encI .i64)) (lt1 rfl) (nm rfl) (.cons (.const _ _ _) (by first | exact ⟨rfl,rfl⟩ | rfl) (.nil)) Try.underlying28 zero3 el3 (by decide) (by decide) rfl (still_all (encI_still .i64) _))<| .cons (.assign (lt1 rfl) (.tmp rfl))<| ARun.nil _ _ _) ?_
  refine AWP.vc (s' := ⟨[(1,.clo (.func 59) [] []),(2,.ptr 1 0),(6,.own 2 1 0 ([(0 : Int)] : List Int).length)],[(2,⟨3,true,([(0 : Int)] : List Int).flatMap (encI .i64)⟩),(1,⟨32,false,[.rd β1 a0.Points.length (a0.Points.flatMap encR45),.rd β2 a0.Before.length (a0.Before.flatMap encR93)]⟩)]⟩) (VC.sub (.c rfl<| .c rfl<| .c rfl<| .n _) (.c rfl<| .c rfl<| .n _)) ?_
  refine AWP.seq ?_
  refine AWP.joinB' (S := fun p_14 : (List Int) => ⟨[(6,.own 2 1 0 p_14.length)],[(2,⟨3,true,p_14.flatMap (encI .i64)⟩)]⟩) h (fun p_14 h => ?_) (fun k_15 h => ?_)
  · refine AWP.seq ?_
    refine AWP.region (.cons (.move (lt1 rfl) (.tmp rfl))<| .cons (.assign (lt1 rfl) (.tmp rfl))<| .cons (.assign (lt1 rfl) (.const _ _ _))<| ARun.nil _ _ _) ?_
    refine AWP.ret ?_
    obtain rfl := Option.some.inj h
    refine retJ (Res.vc (s' := ⟨[(4,.rd false p_14.length (p_14.flatMap (encI .i64))),(5,.sc (.bool true))],[]⟩) (VC.trans (VC.frz (d := 4) (t := 2) rfl rfl (encI_len .i64)) (VC.sub (.c rfl<| .c rfl<| .n _) (.n _))) ?_)
    refine Res.drop (H := []) rfl ?_
    exact Res.of rfl (.cons (.tmp rfl) (.cons (.tmp rfl) (.nil))) rfl rfl
  · refine AWP.vc (s' := ⟨[(1,.clo (.func 59) [] []),(2,.ptr 1 0),(6,.own 2 1 0 ([(0 : Int)] : List Int).length)],[(1,⟨32,false,[.rd β1 a0.Points.length (a0.Points.flatMap encR45),.rd β2 a0.Before.length (a0.Before.flatMap encR93)]⟩),(2,⟨3,true,([(0 : Int)] : List Int).flatMap (encI .i64)⟩)]⟩) (VC.sub (.c rfl<| .c rfl<| .c rfl<| .n _) (.c rfl<| .c rfl<| .n _)) ?_
    refine AWP.loopM (S := fun x_9 : (List Int) => ⟨[(1,.clo (.func 59) [] []),(2,.ptr 1 0),(6,.own 2 1 0 x_9.length)],[(1,⟨32,false,[.rd β1 a0.Points.length (a0.Points.flatMap encR45),.rd β2 a0.Before.length (a0.Before.flatMap encR93)]⟩),(2,⟨3,true,x_9.flatMap (encI .i64)⟩)]⟩) (x := ([(0 : Int)] : List Int)) (fun nx_10 x_9 h => ?_) h
    unfold m58_L1 at h
    refine AWP.seq ?_
    refine AWP.seq ?_
    refine AWP.region (.cons (.move (lt1 rfl) (.tmp rfl))<| .cons (.lenOwn (lt1 rfl) (.tmp rfl) Try.underlying28)<| .cons (.fieldP (lt1 rfl) (.tmp rfl) fld32_0)<| .cons (.loadP (lt1 rfl) (.tmp rfl) one22 rfl rfl rfl)<| .cons (.lenRd (lt1 rfl) (.tmp rfl) Try.underlying22)<| .cons (.lss (lt1 rfl) (.tmp rfl) (.tmp rfl))<| ARun.nil _ _ _) ?_
    refine AWP.vc (s' := ⟨[(1,.clo (.func 59) [] []),(2,.ptr 1 0),(6,.own 2 1 0 x_9.length),(14,.sc (.bool (decide ((x_9.length : Int) < (a0.Points.length : Int)))))],[(1,⟨32,false,[.rd β1 a0.Points.length (a0.Points.flatMap encR45),.rd β2 a0.Before.length (a0.Before.flatMap encR93)]⟩),(2,⟨3,true,x_9.flatMap (encI .i64)⟩)]⟩) (VC.sub (.c rfl<| .c rfl<| .c rfl<| .c rfl<| .n _) (.c rfl<| .c rfl<| .n _)) ?_
    refine AWP.cond (.tmp rfl) (fun hc => ?_) (fun hc => ?_)
    · have h := iteT hc h
      refine AWP.skip ?_
      refine AWP.block ?_
      refine AWP.seq ?_
      obtain ⟨y_11,hy_11,h⟩ := bindS h
      refine AWP.region (.cons (.loadPA (lt1 rfl) (.tmp rfl) agg32 rfl rfl rfl rfl)<| .cons (.move (lt1 rfl) (.tmp rfl))<| .cons (.call0 (bw := true) (lt1 rfl) (c62 (β1 := β1) (β2 := β2) (β3 := true) n (R24.mk a0.Points a0.Before) x_9 hy_11) (.cons (.tmp rfl) (.ren rfl) (.cons (.tmp rfl) (.lendRow rfl rfl (encI_len .i64) rfl) (.nil))) rfl)<| .cons (.assign (lt1 rfl) (.tmp rfl))<| ARun.nil _ _ _) ?_
      refine AWP.vc (s' := ⟨[(1,.clo (.func 59) [] []),(2,.ptr 1 0),(6,.own 2 1 0 x_9.length),(7,.rd false y_11.length (y_11.flatMap (encI .i64)))],[(1,⟨32,false,[.rd β1 a0.Points.length (a0.Points.flatMap encR45),.rd β2 a0.Before.length (a0.Before.flatMap encR93)]⟩),(2,⟨3,true,x_9.flatMap (encI .i64)⟩)]⟩) (VC.sub (.c rfl<| .c rfl<| .c rfl<| .c rfl<| .n _) (.c rfl<| .c rfl<| .n _)) ?_
      refine AWP.seq ?_
      refine AWP.seq ?_
      refine AWP.region (.cons (.move (lt1 rfl) (.tmp rfl))<| .cons (.lenRd (lt1 rfl) (.tmp rfl) Try.underlying28)<| .cons (.eql (lt1 rfl) (.tmp rfl) (.const _ _ _))<| ARun.nil _ _ _) ?_
      refine AWP.vc (s' := ⟨[(1,.clo (.func 59) [] []),(2,.ptr 1 0),(6,.own 2 1 0 x_9.length),(7,.rd false y_11.length (y_11.flatMap (encI .i64))),(20,.sc (.bool (decide ((y_11.length : Int) = (0 : Int)))))],[(1,⟨32,false,[.rd β1 a0.Points.length (a0.Points.flatMap encR45),.rd β2 a0.Before.length (a0.Before.flatMap encR93)]⟩),(2,⟨3,true,x_9.flatMap (encI .i64)⟩)]⟩) (VC.sub (.c rfl<| .c rfl<| .c rfl<| .c rfl<| .c rfl<| .n _) (.c rfl<| .c rfl<| .n _)) ?_
      refine AWP.cond (.tmp rfl) (fun hc => ?_) (fun hc => ?_)
      · have h := iteT hc h
        refine AWP.seq ?_
        refine AWP.region (.cons (.assign (lt1 rfl) (.const _ _ _))<| .cons (.assign (lt1 rfl) (.const _ _ _))<| ARun.nil _ _ _) ?_
        refine AWP.ret ?_
        obtain rfl := Option.some.inj h
        refine retJ (Res.vc (s' := ⟨[(4,.rd false ([] : List Int).length (([] : List Int).flatMap (encI .i64))),(5,.sc (.bool false))],[]⟩) (VC.trans (VC.nilRd (d := 4) false rfl) (VC.sub (.c rfl<| .c rfl<| .n _) (.n _))) ?_)
        refine Res.drop (H := []) rfl ?_
        exact Res.of rfl (.cons (.tmp rfl) (.cons (.tmp rfl) (.nil))) rfl rfl
      · have h := iteF hc h
        refine AWP.skip ?_
        obtain ⟨y_12,hy_12,h⟩ := bindS h
        obtain ⟨l2_13,hl2_13,h⟩ := bindS h
        refine AWP.region (.cons (.move (lt1 rfl) (.tmp rfl))<| .cons (.move (lt1 rfl) (.tmp rfl))<| .cons (.move (lt1 rfl) (.tmp rfl))<| .cons (.keep (bw := false) (AStep.callV (us' := []) (avs := [.rd false y_11.length (y_11.flatMap (encI .i64))]) (cs' := []) (σ := sgT []) (bw := false) (lt1 rfl) (.tmp rfl) (c59 (β1 := false) n y_11 hy_12) (.nil) (.cons (.tmp rfl) (.ren rfl) (.nil)) (.nil) (CallOk.mk' (.n) rfl) (fun _ h => by cases h)) (CallOk.mk' (.n) rfl) rfl rfl)<| .cons (.buildSlice (t := 3) (out := ([y_12] : List Int).flatMap (encI .i64)) (lt1 rfl) (nm rfl) (.cons (.tmp rfl) (by first | exact ⟨rfl,rfl⟩ | rfl) (.nil)) Try.underlying28 zero3 el3 (by decide) (by decide) rfl (still_all (encI_still .i64) _))<| .cons (.app (enc := (encI .i64)) (lt1 rfl) (nm rfl) (.tmp rfl) (Src.own (.tmp rfl) rfl (lendAll (encI_len .i64) _) (flatMap_length (encI_len .i64) _) (one_all (encI_one .i64) _) (.inl rfl)) Try.underlying28 ⟨_,Try.underlying28,by intro k hk; cases hk⟩ el3 rfl (encI_len .i64) rfl rfl (by decide) hl2_13)<| .cons (.assign (lt1 rfl) (.tmp rfl))<| ARun.nil _ _ _) ?_
        exact endJ l2_13 h (VC.sub (.c rfl<| .c rfl<| .c rfl<| .n _) (.c rfl<| .c rfl<| .n _))
    · have h := iteF hc h
      refine AWP.exit ?_
      exact endJ x_9 h (VC.sub (.c rfl<| .n _) (.c rfl<| .n _))
theorem c22 {β1 : Bool} {β2 : Bool} (n : Nat) (a0 : R24) {r : Bool} (h : m22 n a0 = some r) : Spec Try.prog 22 [] [.agg [.rd β1 a0.Points.length (a0.Points.flatMap encR45),.rd β2 a0.Before.length (a0.Before.flatMap encR93)]] [] (.sc (.bool r)) [] := by
  refine Spec.of (fn := Try.f22) Try.func22 Try.ntmps22 rfl rfl (le1 rfl) (fun w0 Zs Zb T0 ι0 => ?_)
  unfold m22 at h
  refine AWP.seq ?_
  refine AWP.region (.cons (.box (t := 1) (n := 2) (lt1 rfl) (nm rfl) (.tmp rfl) (by first | exact ⟨rfl,rfl⟩ | rfl) rfl)<| .cons (.assign (lt1 rfl) (.const _ _ _))<| ARun.nil _ _ _) ?_
  refine AWP.vc (s' := ⟨[(1,.ptr 1 0)],[(1,⟨32,false,[.rd β1 a0.Points.length (a0.Points.flatMap encR45),.rd β2 a0.Before.length (a0.Before.flatMap encR93)]⟩)]⟩) (VC.sub (.c rfl<| .n _) (.c rfl<| .n _)) ?_
  refine AWP.seq ?_
  refine AWP.region (.cons (.fieldP (lt1 rfl) (.tmp rfl) fld32_0)<| .cons (.loadP (lt1 rfl) (.tmp rfl) one22 rfl rfl rfl)<| .cons (.lenRd (lt1 rfl) (.tmp rfl) Try.underlying22)<| .cons (.alloc (t := 2) (k := ⟨3,false,[.sc (.int .i64 (0 : Int))]⟩) (lt1 rfl) (nm rfl) zero3 rfl rfl)<| .cons (.storeP (.tmp rfl) (.tmp rfl) sz3 rfl (lt1 rfl) rfl (by intro h; cases h) rfl)<| ARun.nil _ _ _) ?_
  refine AWP.vc (s' := ⟨[(1,.ptr 1 0),(3,.ptr 2 0)],[(2,⟨3,false,[.sc (.int .i64 (a0.Points.length : Int))]⟩),(1,⟨32,false,[.rd β1 a0.Points.length (a0.Points.flatMap encR45),.rd β2 a0.Before.length (a0.Before.flatMap encR93)]⟩)]⟩) (VC.sub (.c rfl<| .c rfl<| .n _) (.c rfl<| .c rfl<| .n _)) ?_
  refine AWP.seq ?_
  refine AWP.region (.cons (.assign (lt1 rfl) (.func _ _ _))<| ARun.nil _ _ _) ?_
  refine AWP.vc (s' := ⟨[(1,.ptr 1 0),(3,.ptr 2 0),(4,.clo (.func 54) [] [])],[(2,⟨3,false,[.sc (.int .i64 (a0.Points.length : Int))]⟩),(1,⟨32,false,[.rd β1 a0.Points.length (a0.Points.flatMap encR45),.rd β2 a0.Before.length (a0.Before.flatMap encR93)]⟩)]⟩) (VC.sub (.c rfl<| .c rfl<| .c rfl<| .n _) (.c rfl<| .c rfl<| .n _)) ?_
  refine AWP.seq ?_
  refine AWP.region (.cons (.makeFunc (lt1 rfl) (.nil) (.cons (.tmp rfl) (.nil)))<| .cons (.assign (lt1 rfl) (.tmp rfl))<| ARun.nil _ _ _) ?_
  refine AWP.vc (s' := ⟨[(1,.ptr 1 0),(3,.ptr 2 0),(4,.clo (.func 54) [] []),(5,.clo (.func 55) [] [.ptr 2 0])],[(2,⟨3,false,[.sc (.int .i64 (a0.Points.length : Int))]⟩),(1,⟨32,false,[.rd β1 a0.Points.length (a0.Points.flatMap encR45),.rd β2 a0.Before.length (a0.Before.flatMap encR93)]⟩)]⟩) (VC.sub (.c rfl<| .c rfl<| .c rfl<| .c rfl<| .n _) (.c rfl<| .c rfl<| .n _)) ?_
  refine AWP.seq ?_
  refine AWP.seq ?_
  obtain ⟨y_1,hy_1,h⟩ := bindS h
  obtain ⟨y_2,hy_2,h⟩ := bindS h
  obtain ⟨t35_3,ht35_3,h⟩ := letS h
  refine AWP.region (.cons (.loadP (lt1 rfl) (.tmp rfl) one3 rfl rfl rfl)<| .cons (.lss (lt1 rfl) (.tmp rfl) (.const _ _ _))<| .cons (.move (lt1 rfl) (.tmp rfl))<| .guard (j := 2) (dj := 14) rfl (lt1 rfl) rfl (lt1 rfl) (fun hg => .loadP (lt1 rfl) (.tmp rfl) one3 rfl rfl rfl)<| .guard (j := 2) (dj := 14) rfl (lt1 rfl) rfl (lt1 rfl) (fun hg => .gtr (lt1 rfl) (.gd hg (.tmp rfl)) (.const _ _ _))<| .cons (.pickOr (lt1 rfl) (.tmp rfl) (.const _ _ _) (.tmp rfl))<| .cons (.move (lt1 rfl) (.tmp rfl))<| .guard (j := 6) (dj := 18) rfl (lt1 rfl) rfl (lt1 rfl) (fun hg => .fieldP (lt1 rfl) (.tmp rfl) fld32_1)<| .guard (j := 6) (dj := 18) rfl (lt1 rfl) rfl (lt1 rfl) (fun hg => .loadP (lt1 rfl) (.gd hg (.tmp rfl)) one23 rfl rfl rfl)<| .guard (j := 6) (dj := 18) rfl (lt1 rfl) rfl (lt1 rfl) (fun hg => .lenRd (lt1 rfl) (.gd hg (.tmp rfl)) Try.underlying23)<| .guard (j := 6) (dj := 18) rfl (lt1 rfl) rfl (lt1 rfl) (fun hg => .gtr (lt1 rfl) (.gd hg (.tmp rfl)) (.const _ _ _))<| .cons (.pickOr (lt1 rfl) (.tmp rfl) (.const _ _ _) (.tmp rfl))<| .cons (.move (lt1 rfl) (.tmp rfl))<| .guard (j := 12) (dj := 24) rfl (lt1 rfl) rfl (lt1 rfl) (fun hg => .fieldP (lt1 rfl) (.tmp rfl) fld32_0)<| .guard (j := 12) (dj := 24) rfl (lt1 rfl) rfl (lt1 rfl) (fun hg => .loadP (lt1 rfl) (.gd hg (.tmp rfl)) one22 rfl rfl rfl)<| .guard (j := 12) (dj := 24) rfl (lt1 rfl) rfl (lt1 rfl) (fun hg => .move (lt1 rfl) (.tmp rfl))<| .guard (j := 12) (dj := 24) rfl (lt1 rfl) rfl (lt1 rfl) (fun hg => .call0 (bw := false) (lt1 rfl) (c56 (β1 := β1) n a0.Points (gdB hy_1 hg)) (.cons (.gd hg (.tmp rfl)) (.ren rfl) (.cons (.gd hg (.tmp rfl)) (.ren rfl) (.nil))) rfl)<| .cons (.pickOr (lt1 rfl) (.tmp rfl) (.const _ _ _) (.tmp rfl))<| .cons (.move (lt1 rfl) (.tmp rfl))<| .guard (j := 18) (dj := 30) rfl (lt1 rfl) rfl (lt1 rfl) (fun hg => .fieldP (lt1 rfl) (.tmp rfl) fld32_1)<| .guard (j := 18) (dj := 30) rfl (lt1 rfl) rfl (lt1 rfl) (fun hg => .loadP (lt1 rfl) (.gd hg (.tmp rfl)) one23 rfl rfl rfl)<| .guard (j := 18) (dj := 30) rfl (lt1 rfl) rfl (lt1 rfl) (fun hg => .move (lt1 rfl) (.tmp rfl))<| .guard (j := 18) (dj := 30) rfl (lt1 rfl) rfl (lt1 rfl) (fun hg => .keep (bw := false) (AStep.call (σ := fun _ => 2) (bw := false) (lt1 rfl) (c57 (β1 := β2) n a0.Before (a0.Points.length : Int) (gdB hy_2 hg)) (.cons (.gd hg (.tmp rfl)) (.ren rfl) (.cons (.gd hg (.tmp rfl)) (.ren rfl) (.nil))) (CallOk.mk' (.c rfl (.n)) rfl)) (CallOk.mk' (.c rfl (.n)) rfl) rfl rfl)<| .cons (.pickOr (lt1 rfl) (.tmp rfl) (.const _ _ _) (.tmp rfl))<| ARun.nil _ _ _) ?_
  refine AWP.vc (s' := ⟨[(1,.ptr 1 0),(35,.sc (.bool t35_3))],[(1,⟨32,false,[.rd β1 a0.Points.length (a0.Points.flatMap encR45),.rd β2 a0.Before.length (a0.Before.flatMap encR93)]⟩)]⟩) (by subst ht35_3; exact VC.sub (.c rfl<| .c rfl<| .n _) (.c rfl<| .n _)) ?_
  refine AWP.cond (.tmp rfl) (fun hc => ?_) (fun hc => ?_)
  · have h := iteT hc h
    refine AWP.seq ?_
    refine AWP.region (.cons (.assign (lt1 rfl) (.const _ _ _))<| ARun.nil _ _ _) ?_
    refine AWP.ret ?_
    obtain rfl := Option.some.inj h
    refine retJ (Res.vc (s' := ⟨[(2,.sc (.bool false))],[]⟩) (VC.sub (.c rfl<| .n _) (.n _)) ?_)
    refine Res.drop (H := []) rfl ?_
    exact Res.of rfl (.cons (.tmp rfl) (.nil)) rfl rfl
  · have h := iteF hc h
    refine AWP.skip ?_
    refine AWP.seq ?_
    obtain ⟨y_4,hy_4,h⟩ := bindS h
    refine AWP.region (.cons (.loadPA (lt1 rfl) (.tmp rfl) agg32 rfl rfl rfl rfl)<| .cons (.call0 (bw := false) (lt1 rfl) (c58 (β1 := β1) (β2 := β2) n (R24.mk a0.Points a0.Before) hy_4) (.cons (.tmp rfl) (.ren rfl) (.cons (.func _ _ _) (.ren rfl) (.nil))) rfl)<| .cons (.move (lt1 rfl) (.tmp rfl))<| .cons (.extract (lt1 rfl) (.tmp rfl) rfl)<| .cons (.extract (lt1 rfl) (.tmp rfl) rfl)<| .cons (.assign (lt1 rfl) (.tmp rfl))<| .cons (.assign (lt1 rfl) (.tmp rfl))<| ARun.nil _ _ _) ?_
    refine AWP.vc (s' := ⟨[(7,.sc (.bool y_4.2))],[]⟩) (VC.sub (.c rfl<| .n _) (.n _)) ?_
    refine AWP.seq ?_
    refine AWP.region (.cons (.move (lt1 rfl) (.tmp rfl))<| .cons (.assign (lt1 rfl) (.tmp rfl))<| ARun.nil _ _ _) ?_
    refine AWP.ret ?_
    obtain rfl := Option.some.inj h
    refine retJ (Res.vc (s' := ⟨[(2,.sc (.bool y_4.2))],[]⟩) (VC.sub (.c rfl<| .n _) (.n _)) ?_)
    refine Res.drop (H := []) rfl ?_
    exact Res.of rfl (.cons (.tmp rfl) (.nil)) rfl rfl
theorem c72 (n : Nat) (a0 : Int) {r : Int} (h : m72 n a0 = some r) : Spec Try.prog 72 [] [.sc (.int .i64 a0)] [] (.sc (.int .i64 r)) [] := by
  refine Spec.of (fn := Try.f72) Try.func72 Try.ntmps72 rfl rfl (le1 rfl) (fun w0 Zs Zb T0 ι0 => ?_)
  unfold m72 at h
  refine AWP.seq ?_
  refine AWP.region (.cons (.assign (lt1 rfl) (.const _ _ _))<| ARun.nil _ _ _) ?_
  refine AWP.vc (s' := ⟨[(0,.sc (.int .i64 a0))],[]⟩) (VC.sub (.c rfl<| .n _) (.n _)) ?_
  refine AWP.seq ?_
  obtain ⟨t2_1,ht2_1,h⟩ := letS h
  refine AWP.region (.cons (.move (lt1 rfl) (.tmp rfl))<| .cons (.move (lt1 rfl) (.tmp rfl))<| .cons (.neg (lt1 rfl) (.tmp rfl))<| .cons (.max2 (lt1 rfl) (.tmp rfl) (.tmp rfl))<| .cons (.assign (lt1 rfl) (.tmp rfl))<| ARun.nil _ _ _) ?_
  refine AWP.ret ?_
  obtain rfl := Option.some.inj h
  refine retJ (Res.vc (s' := ⟨[(2,.sc (.int .i64 t2_1))],[]⟩) (by subst ht2_1; exact VC.sub (.c rfl<| .n _) (.n _)) ?_)
  refine Res.drop (H := []) rfl ?_
  exact Res.of rfl (.cons (.tmp rfl) (.nil)) rfl rfl
theorem c35 (n : Nat) (a0 : R45) (a1 : R45) {r : Int} (h : m35 n a0 a1 = some r) : Spec Try.prog 35 [] [.agg [.sc (.int .i64 a0.X),.sc (.int .i64 a0.Y)],.agg [.sc (.int .i64 a1.X),.sc (.int .i64 a1.Y)]] [] (.sc (.int .i64 r)) [] := by
  refine Spec.of (fn := Try.f35) Try.func35 Try.ntmps35 rfl rfl (le1 rfl) (fun w0 Zs Zb T0 ι0 => ?_)
  unfold m35 at h
  refine AWP.seq ?_
  refine AWP.region (.cons (.box (t := 1) (n := 2) (lt1 rfl) (nm rfl) (.tmp rfl) (by first | exact ⟨rfl,rfl⟩ | rfl) rfl)<| .cons (.box (t := 2) (n := 2) (lt1 rfl) (nm rfl) (.tmp rfl) (by first | exact ⟨rfl,rfl⟩ | rfl) rfl)<| .cons (.assign (lt1 rfl) (.const _ _ _))<| ARun.nil _ _ _) ?_
  refine AWP.vc (s' := ⟨[(2,.ptr 1 0),(3,.ptr 2 0)],[(2,⟨46,false,[.sc (.int .i64 a1.X),.sc (.int .i64 a1.Y)]⟩),(1,⟨46,false,[.sc (.int .i64 a0.X),.sc (.int .i64 a0.Y)]⟩)]⟩) (VC.sub (.c rfl<| .c rfl<| .n _) (.c rfl<| .c rfl<| .n _)) ?_
  refine AWP.seq ?_
  refine AWP.region (.cons (.assign (lt1 rfl) (.func _ _ _))<| ARun.nil _ _ _) ?_
  refine AWP.vc (s' := ⟨[(2,.ptr 1 0),(3,.ptr 2 0),(5,.clo (.func 72) [] [])],[(2,⟨46,false,[.sc (.int .i64 a1.X),.sc (.int .i64 a1.Y)]⟩),(1,⟨46,false,[.sc (.int .i64 a0.X),.sc (.int .i64 a0.Y)]⟩)]⟩) (VC.sub (.c rfl<| .c rfl<| .c rfl<| .n _) (.c rfl<| .c rfl<| .n _)) ?_
  refine AWP.seq ?_
  obtain ⟨y_1,hy_1,h⟩ := bindS h
  obtain ⟨y_2,hy_2,h⟩ := bindS h
  obtain ⟨t4_3,ht4_3,h⟩ := letS h
  refine AWP.draw (s' := ⟨[(4,.sc (.int .i64 (if y_2 > y_1 then y_2 else y_1)))],[(2,⟨46,false,[.sc (.int .i64 a1.X),.sc (.int .i64 a1.Y)]⟩),(1,⟨46,false,[.sc (.int .i64 a0.X),.sc (.int .i64 a0.Y)]⟩)]⟩) mixed [⟨2,.ptr 1 0,none,[]⟩,⟨3,.ptr 2 0,none,[]⟩,⟨5,.clo (.func 72) [] [],none,[]⟩,⟨6,.clo (.func 72) [] [],some 0,[]⟩,⟨7,.ptr 1 (0 + 0),some 1,[]⟩,⟨8,.sc (.int .i64 a0.X),some 2,[]⟩,⟨9,.ptr 2 (0 + 0),some 3,[]⟩,⟨10,.sc (.int .i64 a1.X),some 4,[]⟩,⟨11,.sc (.int .i64 (IntKind.wrap .i64 (a0.X - a1.X))),some 5,[]⟩,⟨12,.sc (.int .i64 y_1),some 6,[]⟩,⟨13,.clo (.func 72) [] [],some 7,[]⟩,⟨14,.ptr 1 (0 + 1),some 8,[]⟩,⟨15,.sc (.int .i64 a0.Y),some 9,[]⟩,⟨16,.ptr 2 (0 + 1),some 10,[]⟩,⟨17,.sc (.int .i64 a1.Y),some 11,[]⟩,⟨18,.sc (.int .i64 (IntKind.wrap .i64 (a0.Y - a1.Y))),some 12,[]⟩,⟨19,.sc (.int .i64 y_2),some 13,[]⟩,⟨20,.sc (.int .i64 (if y_2 > y_1 then y_2 else y_1)),some 14,[]⟩,⟨4,.sc (.int .i64 (if y_2 > y_1 then y_2 else y_1)),some 15,[]⟩] [⟨[2],0,0,some (6,.clo (.func 72) [] []),[]⟩,⟨[0],0,0,some (7,.ptr 1 (0 + 0)),[]⟩,⟨[4],0,0,some (8,.sc (.int .i64 a0.X)),[]⟩,⟨[1],0,0,some (9,.ptr 2 (0 + 0)),[]⟩,⟨[6],0,0,some (10,.sc (.int .i64 a1.X)),[]⟩,⟨[5,7],0,0,some (11,.sc (.int .i64 (IntKind.wrap .i64 (a0.X - a1.X)))),[]⟩,⟨[3,8],0,0,some (12,.sc (.int .i64 y_1)),[]⟩,⟨[2],0,0,some (13,.clo (.func 72) [] []),[]⟩,⟨[0],0,0,some (14,.ptr 1 (0 + 1)),[]⟩,⟨[11],0,0,some (15,.sc (.int .i64 a0.Y)),[]⟩,⟨[1],0,0,some (16,.ptr 2 (0 + 1)),[]⟩,⟨[13],0,0,some (17,.sc (.int .i64 a1.Y)),[]⟩,⟨[12,14],0,0,some (18,.sc (.int .i64 (IntKind.wrap .i64 (a0.Y - a1.Y)))),[]⟩,⟨[10,15],0,0,some (19,.sc (.int .i64 y_2)),[]⟩,⟨[9,16],0,0,some (20,.sc (.int .i64 (if y_2 > y_1 then y_2 else y_1))),[]⟩,⟨[17],0,0,some (4,.sc (.int .i64 (if y_2 > y_1 then y_2 else y_1))),[]⟩] [] [[(2,⟨46,false,[.sc (.int .i64 a1.X),.sc (.int .i64 a1.Y)]⟩),(1,⟨46,false,[.sc (.int .i64 a0.X),.sc (.int .i64 a0.Y)]⟩)]] [[],[],[1],[],[3],[1,2,3,4],[0,1,2,3,4,5],[],[],[8],[],[10],[8,9,10,11],[0,1,2,3,4,5,6,7,8,9,10,11,12],[0,1,2,3,4,5,6,7,8,9,10,11,12,13],[0,1,2,3,4,5,6,7,8,9,10,11,12,13,14]] (by kernel_rfl) (by kernel_rfl) (BornL.ok (.o<| .o<| .o<| .b rfl rfl<| .b rfl rfl<| .b rfl rfl<| .b rfl rfl<| .b rfl rfl<| .b rfl rfl<| .b rfl rfl<| .b rfl rfl<| .b rfl rfl<| .b rfl rfl<| .b rfl rfl<| .b rfl rfl<| .b rfl rfl<| .b rfl rfl<| .b rfl rfl<| .b rfl rfl<| .n)) (BaseL.ok (.o rfl<| .o rfl<| .o rfl<| .b<| .b<| .b<| .b<| .b<| .b<| .b<| .b<| .b<| .b<| .b<| .b<| .b<| .b<| .b<| .b<| .n)) rfl (by decide) (allLt rfl) (.pure rfl (fun H => .put (fun E hE => .move (lt1 rfl) (.tmp (hE.at (k := 0) rfl))))<| .read rfl (.c (.put (fun E hE => .fieldP (lt1 rfl) (.tmp (hE.at (k := 0) rfl)) fld46_0)) .n)<| .read rfl (.c (.put (fun E hE => .loadP (lt1 rfl) (.tmp (hE.at (k := 0) rfl)) one3 rfl rfl rfl)) .n)<| .read rfl (.c (.put (fun E hE => .fieldP (lt1 rfl) (.tmp (hE.at (k := 0) rfl)) fld46_0)) .n)<| .read rfl (.c (.put (fun E hE => .loadP (lt1 rfl) (.tmp (hE.at (k := 0) rfl)) one3 rfl rfl rfl)) .n)<| .pure rfl (fun H => .put (fun E hE => .sub (lt1 rfl) (.tmp (hE.at (k := 0) rfl)) (.tmp (hE.at (k := 1) rfl))))<| .read rfl (.c (.put (fun E hE => .keep (bw := false) (AStep.callV (us' := []) (avs := [.sc (.int .i64 (IntKind.wrap .i64 (a0.X - a1.X)))]) (cs' := []) (σ := sgT []) (bw := false) (lt1 rfl) (.tmp (hE.at (k := 0) rfl)) (c72 n (IntKind.wrap .i64 (a0.X - a1.X)) hy_1) (.nil) (.cons (.tmp (hE.at (k := 1) rfl)) (.ren rfl) (.nil)) (.nil) (CallOk.mk' (.n) rfl) (fun _ h => by cases h)) (CallOk.mk' (.n) rfl) rfl rfl)) .n)<| .pure rfl (fun H => .put (fun E hE => .move (lt1 rfl) (.tmp (hE.at (k := 0) rfl))))<| .read rfl (.c (.put (fun E hE => .fieldP (lt1 rfl) (.tmp (hE.at (k := 0) rfl)) fld46_1)) .n)<| .read rfl (.c (.put (fun E hE => .loadP (lt1 rfl) (.tmp (hE.at (k := 0) rfl)) one3 rfl rfl rfl)) .n)<| .read rfl (.c (.put (fun E hE => .fieldP (lt1 rfl) (.tmp (hE.at (k := 0) rfl)) fld46_1)) .n)<| .read rfl (.c (.put (fun E hE => .loadP (lt1 rfl) (.tmp (hE.at (k := 0) rfl)) one3 rfl rfl rfl)) .n)<| .pure rfl (fun H => .put (fun E hE => .sub (lt1 rfl) (.tmp (hE.at (k := 0) rfl)) (.tmp (hE.at (k := 1) rfl))))<| .read rfl (.c (.put (fun E hE => .keep (bw := false) (AStep.callV (us' := []) (avs := [.sc (.int .i64 (IntKind.wrap .i64 (a0.Y - a1.Y)))]) (cs' := []) (σ := sgT []) (bw := false) (lt1 rfl) (.tmp (hE.at (k := 0) rfl)) (c72 n (IntKind.wrap .i64 (a0.Y - a1.Y)) hy_2) (.nil) (.cons (.tmp (hE.at (k := 1) rfl)) (.ren rfl) (.nil)) (.nil) (CallOk.mk' (.n) rfl) (fun _ h => by cases h)) (CallOk.mk' (.n) rfl) rfl rfl)) .n)<| .pure rfl (fun H => .put (fun E hE => .max2 (lt1 rfl) (.tmp (hE.at (k := 0) rfl)) (.tmp (hE.at (k := 1) rfl))))<| .pure rfl (fun H => .put (fun E hE => .assign (lt1 rfl) (.tmp (hE.at (k := 0) rfl))))<| .nil _) (fun E hE => .c (DInv.at hE (k := 18) rfl rfl rfl)<| .n _) rfl ?_
  refine AWP.ret ?_
  obtain rfl := Option.some.inj h
  refine retJ (Res.vc (s' := ⟨[(4,.sc (.int .i64 t4_3))],[]⟩) (by subst ht4_3; exact VC.sub (.c rfl<| .n _) (.n _)) ?_)
  refine Res.drop (H := []) rfl ?_
  exact Res.of rfl (.cons (.tmp rfl) (.nil)) rfl rfl
theorem c79 {β1 : Bool} {β2 : Bool} (n : Nat) (a0 : R24) (a1 : Int) (a2 : Int) {r : Int} (h : m79 n a0 a1 a2 = some r) : Spec Try.prog 79 [] [.agg [.rd β1 a0.Points.length (a0.Points.flatMap encR45),.rd β2 a0.Before.length (a0.Before.flatMap encR93)],.sc (.int .i64 a1),.sc (.int .i64 a2)] [] (.sc (.int .i64 r)) [] := by
  refine Spec.of (fn := Try.f79) Try.func79 Try.ntmps79 rfl rfl (le1 rfl) (fun w0 Zs Zb T0 ι0 => ?_)
  unfold m79 at h
  refine AWP.seq ?_
  refine AWP.region (.cons (.box (t := 1) (n := 2) (lt1 rfl) (nm rfl) (.tmp rfl) (by first | exact ⟨rfl,rfl⟩ | rfl) rfl)<| .cons (.assign (lt1 rfl) (.const _ _ _))<| ARun.nil _ _ _) ?_
  refine AWP.vc (s' := ⟨[(1,.sc (.int .i64 a1)),(2,.sc (.int .i64 a2)),(3,.ptr 1 0)],[(1,⟨32,false,[.rd β1 a0.Points.length (a0.Points.flatMap encR45),.rd β2 a0.Before.length (a0.Before.flatMap encR93)]⟩)]⟩) (VC.sub (.c rfl<| .c rfl<| .c rfl<| .n _) (.c rfl<| .n _)) ?_
  refine AWP.seq ?_
  obtain ⟨y_1,hy_1,h⟩ := bindS h
  obtain ⟨y_2,hy_2,h⟩ := bindS h
  obtain ⟨y_3,hy_3,h⟩ := bindS h
  refine AWP.draw (s' := ⟨[(6,.sc (.int .i64 y_3))],[(1,⟨32,false,[.rd β1 a0.Points.length (a0.Points.flatMap encR45),.rd β2 a0.Before.length (a0.Before.flatMap encR93)]⟩)]⟩) mixed [⟨1,.sc (.int .i64 a1),none,[]⟩,⟨2,.sc (.int .i64 a2),none,[]⟩,⟨3,.ptr 1 0,none,[]⟩,⟨7,.ptr 1 (0 + 0),some 0,[]⟩,⟨8,.rd β1 a0.Points.length (a0.Points.flatMap encR45),some 1,[]⟩,⟨9,.sc (.int .i64 a1),some 2,[]⟩,⟨10,.rptr β1 [.sc (.int .i64 y_1.X),.sc (.int .i64 y_1.Y)],some 3,[]⟩,⟨11,.agg [.sc (.int .i64 y_1.X),.sc (.int .i64 y_1.Y)],some 4,[]⟩,⟨12,.ptr 1 (0 + 0),some 5,[]⟩,⟨13,.rd β1 a0.Points.length (a0.Points.flatMap encR45),some 6,[]⟩,⟨14,.sc (.int .i64 a2),some 7,[]⟩,⟨15,.rptr β1 [.sc (.int .i64 y_2.X),.sc (.int .i64 y_2.Y)],some 8,[]⟩,⟨16,.agg [.sc (.int .i64 y_2.X),.sc (.int .i64 y_2.Y)],some 9,[]⟩,⟨17,.sc (.int .i64 y_3),some 10,[]⟩,⟨6,.sc (.int .i64 y_3),some 11,[]⟩] [⟨[2],0,0,some (7,.ptr 1 (0 + 0)),[]⟩,⟨[3],0,0,some (8,.rd β1 a0.Points.length (a0.Points.flatMap encR45)),[]⟩,⟨[0],0,0,some (9,.sc (.int .i64 a1)),[]⟩,⟨[4,5],0,0,some (10,.rptr β1 [.sc (.int .i64 y_1.X),.sc (.int .i64 y_1.Y)]),[]⟩,⟨[6],0,0,some (11,.agg [.sc (.int .i64 y_1.X),.sc (.int .i64 y_1.Y)]),[]⟩,⟨[2],0,0,some (12,.ptr 1 (0 + 0)),[]⟩,⟨[8],0,0,some (13,.rd β1 a0.Points.length (a0.Points.flatMap encR45)),[]⟩,⟨[1],0,0,some (14,.sc (.int .i64 a2)),[]⟩,⟨[9,10],0,0,some (15,.rptr β1 [.sc (.int .i64 y_2.X),.sc (.int .i64 y_2.Y)]),[]⟩,⟨[11],0,0,some (16,.agg [.sc (.int .i64 y_2.X),.sc (.int .i64 y_2.Y)]),[]⟩,⟨[7,12],0,0,some (17,.sc (.int .i64 y_3)),[]⟩,⟨[13],0,0,some (6,.sc (.int .i64 y_3)),[]⟩] [] [[(1,⟨32,false,[.rd β1 a0.Points.length (a0.Points.flatMap encR45),.rd β2 a0.Before.length (a0.Before.flatMap encR93)]⟩)]] [[],[0],[],[0,1,2],[0,1,2,3],[],[5],[],[5,6,7],[5,6,7,8],[0,1,2,3,4,5,6,7,8,9],[0,1,2,3,4,5,6,7,8,9,10]] (by kernel_rfl) (by kernel_rfl) (BornL.ok (.o<| .o<| .o<| .b rfl rfl<| .b rfl rfl<| .b rfl rfl<| .b rfl rfl<| .b rfl rfl<| .b rfl rfl<| .b rfl rfl<| .b rfl rfl<| .b rfl rfl<| .b rfl rfl<| .b rfl rfl<| .b rfl rfl<| .n)) (BaseL.ok (.o rfl<| .o rfl<| .o rfl<| .b<| .b<| .b<| .b<| .b<| .b<| .b<| .b<| .b<| .b<| .b<| .b<| .n)) rfl (by decide) (allLt rfl) (.read rfl (.c (.put (fun E hE => .fieldP (lt1 rfl) (.tmp (hE.at (k := 0) rfl)) fld32_0)) .n)<| .read rfl (.c (.put (fun E hE => .loadP (lt1 rfl) (.tmp (hE.at (k := 0) rfl)) one22 rfl rfl rfl)) .n)<| .pure rfl (fun H => .put (fun E hE => .move (lt1 rfl) (.tmp (hE.at (k := 0) rfl))))<| .pure rfl (fun H => .put (fun E hE => .indexRd (enc := encR45) (lt1 rfl) (.tmp (hE.at (k := 0) rfl)) (.tmp (hE.at (k := 1) rfl)) Try.underlying22 sz46 encR45_len rfl hy_1))<| .pure rfl (fun H => .put (fun E hE => .loadRA (out := [.sc (.int .i64 y_1.X),.sc (.int .i64 y_1.Y)]) (lt1 rfl) (.tmp (hE.at (k := 0) rfl)) agg46 (Nat.le_of_eq (Eq.symm (encR45_len _))) rfl))<| .read rfl (.c (.put (fun E hE => .fieldP (lt1 rfl) (.tmp (hE.at (k := 0) rfl)) fld32_0)) .n)<| .read rfl (.c (.put (fun E hE => .loadP (lt1 rfl) (.tmp (hE.at (k := 0) rfl)) one22 rfl rfl rfl)) .n)<| .pure rfl (fun H => .put (fun E hE => .move (lt1 rfl) (.tmp (hE.at (k := 0) rfl))))<| .pure rfl (fun H => .put (fun E hE => .indexRd (enc := encR45) (lt1 rfl) (.tmp (hE.at (k := 0) rfl)) (.tmp (hE.at (k := 1) rfl)) Try.underlying22 sz46 encR45_len rfl hy_2))<| .pure rfl (fun H => .put (fun E hE => .loadRA (out := [.sc (.int .i64 y_2.X),.sc (.int .i64 y_2.Y)]) (lt1 rfl) (.tmp (hE.at (k := 0) rfl)) agg46 (Nat.le_of_eq (Eq.symm (encR45_len _))) rfl))<| .pure rfl (fun H => .put (fun E hE => .call0 (bw := false) (lt1 rfl) (c35 n (R45.mk y_1.X y_1.Y) (R45.mk y_2.X y_2.Y) hy_3) (.cons (.tmp (hE.at (k := 0) rfl)) (.ren rfl) (.cons (.tmp (hE.at (k := 1) rfl)) (.ren rfl) (.nil))) rfl))<| .pure rfl (fun H => .put (fun E hE => .assign (lt1 rfl) (.tmp (hE.at (k := 0) rfl))))<| .nil _) (fun E hE => .c (DInv.at hE (k := 14) rfl rfl rfl)<| .n _) rfl ?_
  refine AWP.ret ?_
  obtain rfl := Option.some.inj h
  refine retJ (Res.vc (s' := ⟨[(6,.sc (.int .i64 y_3))],[]⟩) (VC.sub (.c rfl<| .n _) (.n _)) ?_)
  refine Res.drop (H := []) rfl ?_
  exact Res.of rfl (.cons (.tmp rfl) (.nil)) rfl rfl
theorem c63 {β1 : Bool} (n : Nat) (a0 : (List Int)) {r : (List Int)} (h : m63 n a0 = some r) : Spec Try.prog 63 [] [.rd β1 a0.length (a0.flatMap (encI .i64))] [] (.rd false r.length (r.flatMap (encI .i64))) [] := by
  refine Spec.of (fn := Try.f63) Try.func63 Try.ntmps63 rfl rfl (le1 rfl) (fun w0 Zs Zb T0 ι0 => ?_)
  unfold m63 at h
  refine AWP.seq ?_
  refine AWP.region (.cons (.assign (lt1 rfl) (.const _ _ _))<| ARun.nil _ _ _) ?_
  refine AWP.vc (s' := ⟨[(0,.rd β1 a0.length (a0.flatMap (encI .i64)))],[]⟩) (VC.sub (.c rfl<| .n _) (.n _)) ?_
  refine AWP.seq ?_
  refine AWP.seq ?_
  refine AWP.regionE (S := fun q_1 => ⟨[(0,.rd β1 a0.length (a0.flatMap (encI .i64))),(4,.sc (.bool (decide (a0.length = 0 ∧ q_1 = 0))))],[]⟩) (.cons (.move (lt1 rfl) (.tmp rfl))<| .consE (AStepE.eqNil0 (lt1 rfl) (.tmp rfl) Try.underlying28)<| fun q_1 => ARunE.nilV q_1 (VC.sub (.c rfl<| .c rfl<| .n _) (.n _))) (fun q_1 => ?_)
  refine AWP.cond (.tmp rfl) (fun hc => ?_) (fun hc => ?_)
  · have h := cloneNil hc h
    refine AWP.seq ?_
    refine AWP.region (.cons (.assign (lt1 rfl) (.const _ _ _))<| ARun.nil _ _ _) ?_
    refine AWP.ret ?_
    obtain rfl := Option.some.inj h
    refine retJ (Res.vc (s' := ⟨[(2,.rd false ([] : List Int).length (([] : List Int).flatMap (encI .i64)))],[]⟩) (VC.trans (VC.nilRd (d := 2) false rfl) (VC.sub (.c rfl<| .n _) (.n _))) ?_)
    refine Res.drop (H := []) rfl ?_
    exact Res.of rfl (.cons (.tmp rfl) (.nil)) rfl rfl
  · refine AWP.skip ?_
    refine AWP.seq ?_
    obtain ⟨l1_2,hl1_2,h⟩ := bindS h
    refine AWP.region (.cons (.buildSlice (t := 1) (out := ([] : List Int).flatMap (encI .i64)) (lt1 rfl) (nm rfl) (.nil) Try.underlying28 zero3 el3 (by decide) (by decide) rfl (still_all (encI_still .i64) _))<| .cons (.move (lt1 rfl) (.tmp rfl))<| .cons (.app (enc := (encI .i64)) (lt1 rfl) (nm rfl) (.tmp rfl) (Src.rd (.tmp rfl) (flatMap_length (encI_len .i64) _) (one_all (encI_one .i64) _) (.inr (scal_all (encI_scal .i64) _))) Try.underlying28 ⟨_,Try.underlying28,by intro k hk; cases hk⟩ el3 rfl (encI_len .i64) rfl rfl (by decide) hl1_2)<| .cons (.assign (lt1 rfl) (.tmp rfl))<| ARun.nil _ _ _) ?_
    refine AWP.ret ?_
    obtain rfl := Option.some.inj h
    refine retJ (Res.vc (s' := ⟨[(2,.rd false l1_2.length (l1_2.flatMap (encI .i64)))],[]⟩) (VC.trans (VC.frz (d := 2) (t := 1) rfl rfl (encI_len .i64)) (VC.sub (.c rfl<| .n _) (.n _))) ?_)
    refine Res.drop (H := []) rfl ?_
    exact Res.of rfl (.cons (.tmp rfl) (.nil)) rfl rfl
theorem c78F (n : Nat) : ∀ (f : Nat) {β1 : Bool} {β2 : Bool} (a0_b : (List Int)) (a0_c : Nat) (a1 : Int) (a2_b0 : Int) (a3_b0 : (List R45)) (a3_b1 : (List R93)) (a4_b0 : (List Int)) {r : ((List Int) × Int × (List Int))},m78F n f a0_b a0_c a1 a2_b0 a3_b0 a3_b1 a4_b0 = some r → Spec Try.prog 78 [1,2,3,4,5] [.ownc 1 1 a0_b.length a0_c,.sc (.int .i64 a1),.ptr 2 0,.ptr 3 0,.ptr 4 0,.ptr 5 0] [(1,⟨3,true,a0_b.flatMap (encI .i64)⟩),(2,⟨3,false,[.sc (.int .i64 a2_b0)]⟩),(3,⟨32,false,[.rd β1 a3_b0.length (a3_b0.flatMap encR45),.rd β2 a3_b1.length (a3_b1.flatMap encR93)]⟩),(4,⟨28,false,[.rd false a4_b0.length (a4_b0.flatMap (encI .i64))]⟩),(5,⟨121,false,[.clo (.func 78) [] [.ptr 2 0,.ptr 3 0,.ptr 4 0,.ptr 5 0]]⟩)] (.tup []) [(1,⟨3,true,r.1.flatMap (encI .i64)⟩),(2,⟨3,false,[.sc (.int .i64 r.2.1)]⟩),(3,⟨32,false,[.rd β1 a3_b0.length (a3_b0.flatMap encR45),.rd β2 a3_b1.length (a3_b1.flatMap encR93)]⟩),(4,⟨28,false,[.rd false r.2.2.length (r.2.2.flatMap (encI .i64))]⟩),(5,⟨121,false,[.clo (.func 78) [] [.ptr 2 0,.ptr 3 0,.ptr 4 0,.ptr 5 0]]⟩)] := by
  intro f
  induction f with
  | zero =>
    intro β1 β2 a0_b a0_c a1 a2_b0 a3_b0 a3_b1 a4_b0 r h
    cases (show (none : Option ((List Int) × Int × (List Int))) = some r from h)
  | succ f ih =>
  intro β1 β2 a0_b a0_c a1 a2_b0 a3_b0 a3_b1 a4_b0 r h
  replace h : m78B n (m78F n f) a0_b a0_c a1 a2_b0 a3_b0 a3_b1 a4_b0 = some r := h
  generalize m78F n f = rc_0 at h ih
  refine Spec.of (fn := Try.f78) Try.func78 Try.ntmps78 rfl rfl (le1 rfl) (fun w0 Zs Zb T0 ι0 => ?_)
  unfold m78B at h
  refine AWP.seq ?_
  refine AWP.seq ?_
  refine AWP.region (.cons (.loadP (lt1 rfl) (.tmp rfl) one3 rfl rfl rfl)<| .cons (.geq (lt1 rfl) (.tmp rfl) (.const _ _ _))<| .cons (.move (lt1 rfl) (.tmp rfl))<| .guard (j := 2) (dj := 13) rfl (lt1 rfl) rfl (lt1 rfl) (fun hg => .move (lt1 rfl) (.tmp rfl))<| .guard (j := 2) (dj := 13) rfl (lt1 rfl) rfl (lt1 rfl) (fun hg => .loadP (lt1 rfl) (.tmp rfl) one3 rfl rfl rfl)<| .guard (j := 2) (dj := 13) rfl (lt1 rfl) rfl (lt1 rfl) (fun hg => .geq (lt1 rfl) (.gd hg (.tmp rfl)) (.gd hg (.tmp rfl)))<| .cons (.pickAnd (lt1 rfl) (.tmp rfl) (.tmp rfl) (.const _ _ _))<| ARun.nil _ _ _) ?_
  refine AWP.vc (s' := ⟨[(0,.ownc 1 1 a0_b.length a0_c),(1,.sc (.int .i64 a1)),(2,.ptr 2 0),(3,.ptr 3 0),(4,.ptr 4 0),(5,.ptr 5 0),(17,.sc (.bool ((decide ((0 : Int) ≤ a2_b0)) && (decide (a2_b0 ≤ a1)))))],[(1,⟨3,true,a0_b.flatMap (encI .i64)⟩),(2,⟨3,false,[.sc (.int .i64 a2_b0)]⟩),(3,⟨32,false,[.rd β1 a3_b0.length (a3_b0.flatMap encR45),.rd β2 a3_b1.length (a3_b1.flatMap encR93)]⟩),(4,⟨28,false,[.rd false a4_b0.length (a4_b0.flatMap (encI .i64))]⟩),(5,⟨121,false,[.clo (.func 78) [] [.ptr 2 0,.ptr 3 0,.ptr 4 0,.ptr 5 0]]⟩)]⟩) (VC.sub (.c rfl<| .c rfl<| .c rfl<| .c rfl<| .c rfl<| .c rfl<| .c rfl<| .n _) (.c rfl<| .c rfl<| .c rfl<| .c rfl<| .c rfl<| .n _)) ?_
  refine AWP.cond (.tmp rfl) (fun hc => ?_) (fun hc => ?_)
  · have h := iteT hc h
    refine AWP.ret ?_
    obtain rfl := Option.some.inj h
    refine retJ (Res.vc (s' := ⟨[],[(1,⟨3,true,a0_b.flatMap (encI .i64)⟩),(2,⟨3,false,[.sc (.int .i64 a2_b0)]⟩),(3,⟨32,false,[.rd β1 a3_b0.length (a3_b0.flatMap encR45),.rd β2 a3_b1.length (a3_b1.flatMap encR93)]⟩),(4,⟨28,false,[.rd false a4_b0.length (a4_b0.flatMap (encI .i64))]⟩),(5,⟨121,false,[.clo (.func 78) [] [.ptr 2 0,.ptr 3 0,.ptr 4 0,.ptr 5 0]]⟩)]⟩) (VC.sub (.n _) (.c rfl<| .c rfl<| .c rfl<| .c rfl<| .c rfl<| .n _)) ?_)
    refine Res.sub (H := [(1,⟨3,true,a0_b.flatMap (encI .i64)⟩),(2,⟨3,false,[.sc (.int .i64 a2_b0)]⟩),(3,⟨32,false,[.rd β1 a3_b0.length (a3_b0.flatMap encR45),.rd β2 a3_b1.length (a3_b1.flatMap encR93)]⟩),(4,⟨28,false,[.rd false a4_b0.length (a4_b0.flatMap (encI .i64))]⟩),(5,⟨121,false,[.clo (.func 78) [] [.ptr 2 0,.ptr 3 0,.ptr 4 0,.ptr 5 0]]⟩)]) (.c rfl<| .c rfl<| .c rfl<| .c rfl<| .c rfl<| .n _) ?_
    exact Res.of rfl (.nil) rfl rfl
  · have h := iteF hc h
    refine AWP.skip ?_
    refine AWP.seq ?_
    obtain ⟨y_1,hy_1,h⟩ := bindS h
    refine AWP.region (.cons (.move (lt1 rfl) (.tmp rfl))<| .cons (.move (lt1 rfl) (.tmp rfl))<| .cons (.lenOwn (lt1 rfl) (.ofC (.tmp rfl)) Try.underlying28)<| .cons (.sub (lt1 rfl) (.tmp rfl) (.const _ _ _))<| .cons (.idxOwn (lt1 rfl) (.ofC (.tmp rfl)) (.tmp rfl) Try.underlying28 sz3 rfl hy_1)<| .cons (.loadP (lt1 rfl) (.tmp rfl) one3 rfl (cell_at1 (encI_len .i64) hy_1) rfl)<| .cons (.assign (lt1 rfl) (.tmp rfl))<| ARun.nil _ _ _) ?_
    refine AWP.vc (s' := ⟨[(0,.ownc 1 1 a0_b.length a0_c),(1,.sc (.int .i64 a1)),(2,.ptr 2 0),(3,.ptr 3 0),(4,.ptr 4 0),(5,.ptr 5 0),(8,.sc (.int .i64 y_1))],[(1,⟨3,true,a0_b.flatMap (encI .i64)⟩),(2,⟨3,false,[.sc (.int .i64 a2_b0)]⟩),(3,⟨32,false,[.rd β1 a3_b0.length (a3_b0.flatMap encR45),.rd β2 a3_b1.length (a3_b1.flatMap encR93)]⟩),(4,⟨28,false,[.rd false a4_b0.length (a4_b0.flatMap (encI .i64))]⟩),(5,⟨121,false,[.clo (.func 78) [] [.ptr 2 0,.ptr 3 0,.ptr 4 0,.ptr 5 0]]⟩)]⟩) (VC.sub (.c rfl<| .c rfl<| .c rfl<| .c rfl<| .c rfl<| .c rfl<| .c rfl<| .n _) (.c rfl<| .c rfl<| .c rfl<| .c rfl<| .c rfl<| .n _)) ?_
    refine AWP.seq ?_
    refine AWP.seq ?_
    refine AWP.region (.cons (.move (lt1 rfl) (.tmp rfl))<| .cons (.lenOwn (lt1 rfl) (.ofC (.tmp rfl)) Try.underlying28)<| .cons (.fieldP (lt1 rfl) (.tmp rfl) fld32_0)<| .cons (.loadP (lt1 rfl) (.tmp rfl) one22 rfl rfl rfl)<| .cons (.lenRd (lt1 rfl) (.tmp rfl) Try.underlying22)<| .cons (.eql (lt1 rfl) (.tmp rfl) (.tmp rfl))<| ARun.nil _ _ _) ?_
    refine AWP.vc (s' := ⟨[(0,.ownc 1 1 a0_b.length a0_c),(1,.sc (.int .i64 a1)),(2,.ptr 2 0),(3,.ptr 3 0),(4,.ptr 4 0),(5,.ptr 5 0),(8,.sc (.int .i64 y_1)),(29,.sc (.bool (decide ((a0_b.length : Int) = (a3_b0.length : Int)))))],[(1,⟨3,true,a0_b.flatMap (encI .i64)⟩),(2,⟨3,false,[.sc (.int .i64 a2_b0)]⟩),(3,⟨32,false,[.rd β1 a3_b0.length (a3_b0.flatMap encR45),.rd β2 a3_b1.length (a3_b1.flatMap encR93)]⟩),(4,⟨28,false,[.rd false a4_b0.length (a4_b0.flatMap (encI .i64))]⟩),(5,⟨121,false,[.clo (.func 78) [] [.ptr 2 0,.ptr 3 0,.ptr 4 0,.ptr 5 0]]⟩)]⟩) (VC.sub (.c rfl<| .c rfl<| .c rfl<| .c rfl<| .c rfl<| .c rfl<| .c rfl<| .c rfl<| .n _) (.c rfl<| .c rfl<| .c rfl<| .c rfl<| .c rfl<| .n _)) ?_
    refine AWP.cond (.tmp rfl) (fun hc => ?_) (fun hc => ?_)
    · have h := iteT hc h
      refine AWP.seq ?_
      refine AWP.seq ?_
      obtain ⟨y_2,hy_2,h⟩ := bindS h
      obtain ⟨t1_3,ht1_3,h⟩ := letS h
      refine AWP.region (.cons (.move (lt1 rfl) (.tmp rfl))<| .cons (.loadPA (lt1 rfl) (.tmp rfl) agg32 rfl rfl rfl rfl)<| .cons (.move (lt1 rfl) (.tmp rfl))<| .cons (.call0 (bw := false) (lt1 rfl) (c79 (β1 := β1) (β2 := β2) n (R24.mk a3_b0 a3_b1) y_1 (0 : Int) hy_2) (.cons (.tmp rfl) (.ren rfl) (.cons (.tmp rfl) (.ren rfl) (.cons (.const _ _ _) (.ren rfl) (.nil)))) rfl)<| .cons (.add (lt1 rfl) (.tmp rfl) (.tmp rfl))<| .cons (.assign (lt1 rfl) (.tmp rfl))<| ARun.nil _ _ _) ?_
      refine AWP.vc (s' := ⟨[(0,.ownc 1 1 a0_b.length a0_c),(1,.sc (.int .i64 t1_3)),(2,.ptr 2 0),(4,.ptr 4 0)],[(1,⟨3,true,a0_b.flatMap (encI .i64)⟩),(2,⟨3,false,[.sc (.int .i64 a2_b0)]⟩),(3,⟨32,false,[.rd β1 a3_b0.length (a3_b0.flatMap encR45),.rd β2 a3_b1.length (a3_b1.flatMap encR93)]⟩),(4,⟨28,false,[.rd false a4_b0.length (a4_b0.flatMap (encI .i64))]⟩),(5,⟨121,false,[.clo (.func 78) [] [.ptr 2 0,.ptr 3 0,.ptr 4 0,.ptr 5 0]]⟩)]⟩) (by subst ht1_3; exact VC.sub (.c rfl<| .c rfl<| .c rfl<| .c rfl<| .n _) (.c rfl<| .c rfl<| .c rfl<| .c rfl<| .c rfl<| .n _)) ?_
      refine AWP.seq ?_
      refine AWP.region (.cons (.loadP (lt1 rfl) (.tmp rfl) one3 rfl rfl rfl)<| .cons (.lss (lt1 rfl) (.tmp rfl) (.const _ _ _))<| .cons (.move (lt1 rfl) (.tmp rfl))<| .guard (j := 2) (dj := 37) rfl (lt1 rfl) rfl (lt1 rfl) (fun hg => .move (lt1 rfl) (.tmp rfl))<| .guard (j := 2) (dj := 37) rfl (lt1 rfl) rfl (lt1 rfl) (fun hg => .loadP (lt1 rfl) (.tmp rfl) one3 rfl rfl rfl)<| .guard (j := 2) (dj := 37) rfl (lt1 rfl) rfl (lt1 rfl) (fun hg => .lss (lt1 rfl) (.gd hg (.tmp rfl)) (.gd hg (.tmp rfl)))<| .cons (.pickOr (lt1 rfl) (.tmp rfl) (.const _ _ _) (.tmp rfl))<| ARun.nil _ _ _) ?_
      refine AWP.vc (s' := ⟨[(0,.ownc 1 1 a0_b.length a0_c),(1,.sc (.int .i64 t1_3)),(2,.ptr 2 0),(4,.ptr 4 0),(41,.sc (.bool ((decide (a2_b0 < (0 : Int))) || (decide (t1_3 < a2_b0)))))],[(1,⟨3,true,a0_b.flatMap (encI .i64)⟩),(2,⟨3,false,[.sc (.int .i64 a2_b0)]⟩),(3,⟨32,false,[.rd β1 a3_b0.length (a3_b0.flatMap encR45),.rd β2 a3_b1.length (a3_b1.flatMap encR93)]⟩),(4,⟨28,false,[.rd false a4_b0.length (a4_b0.flatMap (encI .i64))]⟩),(5,⟨121,false,[.clo (.func 78) [] [.ptr 2 0,.ptr 3 0,.ptr 4 0,.ptr 5 0]]⟩)]⟩) (VC.sub (.c rfl<| .c rfl<| .c rfl<| .c rfl<| .c rfl<| .n _) (.c rfl<| .c rfl<| .c rfl<| .c rfl<| .c rfl<| .n _)) ?_
      refine AWP.join' (S := fun p_5 : Int × (List Int) => ⟨[],[(1,⟨3,true,a0_b.flatMap (encI .i64)⟩),(2,⟨3,false,[.sc (.int .i64 p_5.1)]⟩),(3,⟨32,false,[.rd β1 a3_b0.length (a3_b0.flatMap encR45),.rd β2 a3_b1.length (a3_b1.flatMap encR93)]⟩),(4,⟨28,false,[.rd false p_5.2.length (p_5.2.flatMap (encI .i64))]⟩),(5,⟨121,false,[.clo (.func 78) [] [.ptr 2 0,.ptr 3 0,.ptr 4 0,.ptr 5 0]]⟩)]⟩) h (fun p_5 h => ?_) (fun k_6 h => ?_)
      · refine AWP.ret ?_
        obtain rfl := Option.some.inj h
        refine retJ (Res.vc (s' := ⟨[],[(1,⟨3,true,a0_b.flatMap (encI .i64)⟩),(2,⟨3,false,[.sc (.int .i64 p_5.1)]⟩),(3,⟨32,false,[.rd β1 a3_b0.length (a3_b0.flatMap encR45),.rd β2 a3_b1.length (a3_b1.flatMap encR93)]⟩),(4,⟨28,false,[.rd false p_5.2.length (p_5.2.flatMap (encI .i64))]⟩),(5,⟨121,false,[.clo (.func 78) [] [.ptr 2 0,.ptr 3 0,.ptr 4 0,.ptr 5 0]]⟩)]⟩) (VC.sub (.n _) (.c rfl<| .c rfl<| .c rfl<| .c rfl<| .c rfl<| .n _)) ?_)
        refine Res.sub (H := [(1,⟨3,true,a0_b.flatMap (encI .i64)⟩),(2,⟨3,false,[.sc (.int .i64 p_5.1)]⟩),(3,⟨32,false,[.rd β1 a3_b0.length (a3_b0.flatMap encR45),.rd β2 a3_b1.length (a3_b1.flatMap encR93)]⟩),(4,⟨28,false,[.rd false p_5.2.length (p_5.2.flatMap (encI .i64))]⟩),(5,⟨121,false,[.clo (.func 78) [] [.ptr 2 0,.ptr 3 0,.ptr 4 0,.ptr 5 0]]⟩)]) (.c rfl<| .c rfl<| .c rfl<| .c rfl<| .c rfl<| .n _) ?_
        exact Res.of rfl (.nil) rfl rfl
      · refine AWP.cond (.tmp rfl) (fun hc => ?_) (fun hc => ?_)
        · have h := iteT hc h
          obtain ⟨y_4,hy_4,h⟩ := bindS h
          refine AWP.region (.cons (.move (lt1 rfl) (.tmp rfl))<| .cons (.call0 (bw := true) (lt1 rfl) (c63 (β1 := true) n a0_b hy_4) (.cons (.ofC (.tmp rfl)) (.lendRow rfl rfl (encI_len .i64) rfl) (.nil)) rfl)<| .cons (.move (lt1 rfl) (.tmp rfl))<| .cons (.storeP (.tmp rfl) (.tmp rfl) sz28 rfl (lt1 rfl) rfl (by intro h; cases h) rfl)<| .cons (.storeP (.tmp rfl) (.tmp rfl) sz3 rfl (lt1 rfl) rfl (by intro h; cases h) rfl)<| ARun.nil _ _ _) ?_
          exact endJ (t1_3,y_4) h (VC.sub (.n _) (.c rfl<| .c rfl<| .c rfl<| .c rfl<| .c rfl<| .n _))
        · have h := iteF hc h
          refine AWP.skip ?_
          exact endJ (a2_b0,a4_b0) h (VC.sub (.n _) (.c rfl<| .c rfl<| .c rfl<| .c rfl<| .c rfl<| .n _))
    · have h := iteF hc h
      refine AWP.skip ?_
      refine AWP.seq ?_
      obtain ⟨y_7,hy_7,h⟩ := bindS h
      refine AWP.region (.cons (.loadPA (lt1 rfl) (.tmp rfl) agg32 rfl rfl rfl rfl)<| .cons (.move (lt1 rfl) (.tmp rfl))<| .cons (.call0 (bw := true) (lt1 rfl) (c62 (β1 := β1) (β2 := β2) (β3 := true) n (R24.mk a3_b0 a3_b1) a0_b hy_7) (.cons (.tmp rfl) (.ren rfl) (.cons (.ofC (.tmp rfl)) (.lendRow rfl rfl (encI_len .i64) rfl) (.nil))) rfl)<| .cons (.lenRd (lt1 rfl) (.tmp rfl) Try.underlying28)<| .cons (.move (lt1 rfl) (.const _ _ _))<| ARun.nil _ _ _) ?_
      refine AWP.vc (s' := ⟨[(0,.ownc 1 1 a0_b.length a0_c),(1,.sc (.int .i64 a1)),(3,.ptr 3 0),(5,.ptr 5 0),(8,.sc (.int .i64 y_1)),(47,.rd false y_7.length (y_7.flatMap (encI .i64))),(48,.sc (.int .i64 (y_7.length : Int))),(49,.sc (.int .i64 (0 : Int)))],[(1,⟨3,true,a0_b.flatMap (encI .i64)⟩),(2,⟨3,false,[.sc (.int .i64 a2_b0)]⟩),(3,⟨32,false,[.rd β1 a3_b0.length (a3_b0.flatMap encR45),.rd β2 a3_b1.length (a3_b1.flatMap encR93)]⟩),(4,⟨28,false,[.rd false a4_b0.length (a4_b0.flatMap (encI .i64))]⟩),(5,⟨121,false,[.clo (.func 78) [] [.ptr 2 0,.ptr 3 0,.ptr 4 0,.ptr 5 0]]⟩)]⟩) (VC.sub (.c rfl<| .c rfl<| .c rfl<| .c rfl<| .c rfl<| .c rfl<| .c rfl<| .c rfl<| .n _) (.c rfl<| .c rfl<| .c rfl<| .c rfl<| .c rfl<| .n _)) ?_
      refine AWP.joinB' (S := fun p_27 : (List Int) × Int × (List Int) => ⟨[],[(1,⟨3,true,p_27.1.flatMap (encI .i64)⟩),(2,⟨3,false,[.sc (.int .i64 p_27.2.1)]⟩),(3,⟨32,false,[.rd β1 a3_b0.length (a3_b0.flatMap encR45),.rd β2 a3_b1.length (a3_b1.flatMap encR93)]⟩),(4,⟨28,false,[.rd false p_27.2.2.length (p_27.2.2.flatMap (encI .i64))]⟩),(5,⟨121,false,[.clo (.func 78) [] [.ptr 2 0,.ptr 3 0,.ptr 4 0,.ptr 5 0]]⟩)]⟩) h (fun p_27 h => ?_) (fun k_28 h => ?_)
      · obtain rfl := Option.some.inj h
        refine norJ (Res.vc (s' := ⟨[],[(1,⟨3,true,p_27.1.flatMap (encI .i64)⟩),(2,⟨3,false,[.sc (.int .i64 p_27.2.1)]⟩),(3,⟨32,false,[.rd β1 a3_b0.length (a3_b0.flatMap encR45),.rd β2 a3_b1.length (a3_b1.flatMap encR93)]⟩),(4,⟨28,false,[.rd false p_27.2.2.length (p_27.2.2.flatMap (encI .i64))]⟩),(5,⟨121,false,[.clo (.func 78) [] [.ptr 2 0,.ptr 3 0,.ptr 4 0,.ptr 5 0]]⟩)]⟩) (VC.sub (.n _) (.c rfl<| .c rfl<| .c rfl<| .c rfl<| .c rfl<| .n _)) ?_)
        refine Res.sub (H := [(1,⟨3,true,p_27.1.flatMap (encI .i64)⟩),(2,⟨3,false,[.sc (.int .i64 p_27.2.1)]⟩),(3,⟨32,false,[.rd β1 a3_b0.length (a3_b0.flatMap encR45),.rd β2 a3_b1.length (a3_b1.flatMap encR93)]⟩),(4,⟨28,false,[.rd false p_27.2.2.length (p_27.2.2.flatMap (encI .i64))]⟩),(5,⟨121,false,[.clo (.func 78) [] [.ptr 2 0,.ptr 3 0,.ptr 4 0,.ptr 5 0]]⟩)]) (.c rfl<| .c rfl<| .c rfl<| .c rfl<| .c rfl<| .n _) ?_
        exact Res.of rfl (.nil) rfl rfl
      · refine AWP.vc (s' := ⟨[(0,.ownc 1 1 a0_b.length a0_c),(1,.sc (.int .i64 a1)),(3,.ptr 3 0),(5,.ptr 5 0),(8,.sc (.int .i64 y_1)),(47,.rd false y_7.length (y_7.flatMap (encI .i64))),(48,.sc (.int .i64 (y_7.length : Int))),(49,.sc (.int .i64 (0 : Int)))],[(1,⟨3,true,a0_b.flatMap (encI .i64)⟩),(2,⟨3,false,[.sc (.int .i64 a2_b0)]⟩),(3,⟨32,false,[.rd β1 a3_b0.length (a3_b0.flatMap encR45),.rd β2 a3_b1.length (a3_b1.flatMap encR93)]⟩),(4,⟨28,false,[.rd false a4_b0.length (a4_b0.flatMap (encI .i64))]⟩),(5,⟨121,false,[.clo (.func 78) [] [.ptr 2 0,.ptr 3 0,.ptr 4 0,.ptr 5 0]]⟩)]⟩) (VC.sub (.c rfl<| .c rfl<| .c rfl<| .c rfl<| .c rfl<| .c rfl<| .c rfl<| .c rfl<| .n _) (.c rfl<| .c rfl<| .c rfl<| .c rfl<| .c rfl<| .n _)) ?_
        refine AWP.loopM (S := fun x_20 : Int × (List Int) × Int × (List Int) => ⟨[(0,.ownc 1 1 a0_b.length a0_c),(1,.sc (.int .i64 a1)),(3,.ptr 3 0),(5,.ptr 5 0),(8,.sc (.int .i64 y_1)),(47,.rd false y_7.length (y_7.flatMap (encI .i64))),(48,.sc (.int .i64 (y_7.length : Int))),(49,.sc (.int .i64 x_20.1))],[(1,⟨3,true,x_20.2.1.flatMap (encI .i64)⟩),(2,⟨3,false,[.sc (.int .i64 x_20.2.2.1)]⟩),(3,⟨32,false,[.rd β1 a3_b0.length (a3_b0.flatMap encR45),.rd β2 a3_b1.length (a3_b1.flatMap encR93)]⟩),(4,⟨28,false,[.rd false x_20.2.2.2.length (x_20.2.2.2.flatMap (encI .i64))]⟩),(5,⟨121,false,[.clo (.func 78) [] [.ptr 2 0,.ptr 3 0,.ptr 4 0,.ptr 5 0]]⟩)]⟩) (x := ((0 : Int),a0_b,a2_b0,a4_b0)) (fun nx_21 x_20 h => ?_) h
        unfold m78_L1 at h
        refine AWP.seq ?_
        refine AWP.region (.cons (.lss (lt1 rfl) (.tmp rfl) (.tmp rfl))<| ARun.nil _ _ _) ?_
        refine AWP.vc (s' := ⟨[(0,.ownc 1 1 a0_b.length a0_c),(1,.sc (.int .i64 a1)),(3,.ptr 3 0),(5,.ptr 5 0),(8,.sc (.int .i64 y_1)),(47,.rd false y_7.length (y_7.flatMap (encI .i64))),(48,.sc (.int .i64 (y_7.length : Int))),(49,.sc (.int .i64 x_20.1)),(50,.sc (.bool (decide (x_20.1 < (y_7.length : Int)))))],[(1,⟨3,true,x_20.2.1.flatMap (encI .i64)⟩),(2,⟨3,false,[.sc (.int .i64 x_20.2.2.1)]⟩),(3,⟨32,false,[.rd β1 a3_b0.length (a3_b0.flatMap encR45),.rd β2 a3_b1.length (a3_b1.flatMap encR93)]⟩),(4,⟨28,false,[.rd false x_20.2.2.2.length (x_20.2.2.2.flatMap (encI .i64))]⟩),(5,⟨121,false,[.clo (.func 78) [] [.ptr 2 0,.ptr 3 0,.ptr 4 0,.ptr 5 0]]⟩)]⟩) (VC.sub (.c rfl<| .c rfl<| .c rfl<| .c rfl<| .c rfl<| .c rfl<| .c rfl<| .c rfl<| .c rfl<| .n _) (.c rfl<| .c rfl<| .c rfl<| .c rfl<| .c rfl<| .n _)) ?_
        refine AWP.seq ?_
        refine AWP.cond (.tmp rfl) (fun hc => ?_) (fun hc => ?_)
        · have h := iteT hc h
          refine AWP.skip ?_
          refine AWP.seq ?_
          refine AWP.block ?_
          refine AWP.seq ?_
          obtain ⟨y_22,hy_22,h⟩ := bindS h
          refine AWP.region (.cons (.indexRd (enc := (encI .i64)) (lt1 rfl) (.tmp rfl) (.tmp rfl) Try.underlying28 sz3 (encI_len .i64) rfl hy_22)<| .cons (.loadR (v := .sc (.int .i64 y_22)) (lt1 rfl) (.tmp rfl) one3 rfl)<| .cons (.assign (lt1 rfl) (.tmp rfl))<| ARun.nil _ _ _) ?_
          refine AWP.vc (s' := ⟨[(0,.ownc 1 1 a0_b.length a0_c),(1,.sc (.int .i64 a1)),(3,.ptr 3 0),(5,.ptr 5 0),(8,.sc (.int .i64 y_1)),(47,.rd false y_7.length (y_7.flatMap (encI .i64))),(48,.sc (.int .i64 (y_7.length : Int))),(49,.sc (.int .i64 x_20.1)),(10,.sc (.int .i64 y_22))],[(1,⟨3,true,x_20.2.1.flatMap (encI .i64)⟩),(2,⟨3,false,[.sc (.int .i64 x_20.2.2.1)]⟩),(3,⟨32,false,[.rd β1 a3_b0.length (a3_b0.flatMap encR45),.rd β2 a3_b1.length (a3_b1.flatMap encR93)]⟩),(4,⟨28,false,[.rd false x_20.2.2.2.length (x_20.2.2.2.flatMap (encI .i64))]⟩),(5,⟨121,false,[.clo (.func 78) [] [.ptr 2 0,.ptr 3 0,.ptr 4 0,.ptr 5 0]]⟩)]⟩) (VC.sub (.c rfl<| .c rfl<| .c rfl<| .c rfl<| .c rfl<| .c rfl<| .c rfl<| .c rfl<| .c rfl<| .n _) (.c rfl<| .c rfl<| .c rfl<| .c rfl<| .c rfl<| .n _)) ?_
          obtain ⟨l1_23,hl1_23,h⟩ := bindS h
          obtain ⟨y_24,hy_24,h⟩ := bindS h
          obtain ⟨y_25,hy_25,h⟩ := bindS h
          refine AWP.draw (s' := ⟨[(0,.ownc 1 1 a0_b.length a0_c),(1,.sc (.int .i64 a1)),(3,.ptr 3 0),(5,.ptr 5 0),(8,.sc (.int .i64 y_1)),(47,.rd false y_7.length (y_7.flatMap (encI .i64))),(48,.sc (.int .i64 (y_7.length : Int))),(49,.sc (.int .i64 x_20.1))],[(1,⟨3,true,y_25.1.flatMap (encI .i64)⟩),(2,⟨3,false,[.sc (.int .i64 y_25.2.1)]⟩),(3,⟨32,false,[.rd β1 a3_b0.length (a3_b0.flatMap encR45),.rd β2 a3_b1.length (a3_b1.flatMap encR93)]⟩),(4,⟨28,false,[.rd false y_25.2.2.length (y_25.2.2.flatMap (encI .i64))]⟩),(5,⟨121,false,[.clo (.func 78) [] [.ptr 2 0,.ptr 3 0,.ptr 4 0,.ptr 5 0]]⟩)]⟩) mixed [⟨0,.ownc 1 1 a0_b.length a0_c,none,[]⟩,⟨1,.sc (.int .i64 a1),none,[]⟩,⟨3,.ptr 3 0,none,[]⟩,⟨5,.ptr 5 0,none,[]⟩,⟨8,.sc (.int .i64 y_1),none,[]⟩,⟨10,.sc (.int .i64 y_22),none,[]⟩,⟨47,.rd false y_7.length (y_7.flatMap (encI .i64)),none,[]⟩,⟨48,.sc (.int .i64 (y_7.length : Int)),none,[]⟩,⟨49,.sc (.int .i64 x_20.1),none,[]⟩,⟨53,.clo (.func 78) [] [.ptr 2 0,.ptr 3 0,.ptr 4 0,.ptr 5 0],some 0,[]⟩,⟨54,.ownc 1 1 a0_b.length a0_c,some 1,[]⟩,⟨55,.sc (.int .i64 y_22),some 2,[]⟩,⟨56,.rd false ([y_22] : List Int).length (([y_22] : List Int).flatMap (encI .i64)),some 3,[]⟩,⟨57,.ownc 1 1 l1_23.length a0_c,some 4,[]⟩,⟨58,.sc (.int .i64 a1),some 5,[]⟩,⟨59,.agg [.rd β1 a3_b0.length (a3_b0.flatMap encR45),.rd β2 a3_b1.length (a3_b1.flatMap encR93)],some 6,[]⟩,⟨60,.sc (.int .i64 y_1),some 7,[]⟩,⟨61,.sc (.int .i64 y_22),some 8,[]⟩,⟨62,.sc (.int .i64 y_24),some 9,[]⟩,⟨63,.sc (.int .i64 (IntKind.wrap .i64 (a1 + y_24))),some 10,[]⟩,⟨64,.tup [],some 11,[]⟩] [⟨[3],0,1,some (53,.clo (.func 78) [] [.ptr 2 0,.ptr 3 0,.ptr 4 0,.ptr 5 0]),[]⟩,⟨[0],0,0,some (54,.ownc 1 1 a0_b.length a0_c),[]⟩,⟨[5],0,2,some (55,.sc (.int .i64 y_22)),[]⟩,⟨[11],0,2,some (56,.rd false ([y_22] : List Int).length (([y_22] : List Int).flatMap (encI .i64))),[]⟩,⟨[10,12],0,0,some (57,.ownc 1 1 l1_23.length a0_c),[]⟩,⟨[1],0,2,some (58,.sc (.int .i64 a1)),[]⟩,⟨[2],0,1,some (59,.agg [.rd β1 a3_b0.length (a3_b0.flatMap encR45),.rd β2 a3_b1.length (a3_b1.flatMap encR93)]),[]⟩,⟨[4],0,2,some (60,.sc (.int .i64 y_1)),[]⟩,⟨[5],0,2,some (61,.sc (.int .i64 y_22)),[]⟩,⟨[15,16,17],0,2,some (62,.sc (.int .i64 y_24)),[]⟩,⟨[14,18],0,2,some (63,.sc (.int .i64 (IntKind.wrap .i64 (a1 + y_24)))),[]⟩,⟨[9,13,19],1,1,some (64,.tup []),[]⟩] [4,11] [[(1,⟨3,true,x_20.2.1.flatMap (encI .i64)⟩),(2,⟨3,false,[.sc (.int .i64 x_20.2.2.1)]⟩),(3,⟨32,false,[.rd β1 a3_b0.length (a3_b0.flatMap encR45),.rd β2 a3_b1.length (a3_b1.flatMap encR93)]⟩),(4,⟨28,false,[.rd false x_20.2.2.2.length (x_20.2.2.2.flatMap (encI .i64))]⟩),(5,⟨121,false,[.clo (.func 78) [] [.ptr 2 0,.ptr 3 0,.ptr 4 0,.ptr 5 0]]⟩)],[(1,⟨3,true,l1_23.flatMap (encI .i64)⟩),(2,⟨3,false,[.sc (.int .i64 x_20.2.2.1)]⟩),(3,⟨32,false,[.rd β1 a3_b0.length (a3_b0.flatMap encR45),.rd β2 a3_b1.length (a3_b1.flatMap encR93)]⟩),(4,⟨28,false,[.rd false x_20.2.2.2.length (x_20.2.2.2.flatMap (encI .i64))]⟩),(5,⟨121,false,[.clo (.func 78) [] [.ptr 2 0,.ptr 3 0,.ptr 4 0,.ptr 5 0]]⟩)],[(1,⟨3,true,y_25.1.flatMap (encI .i64)⟩),(2,⟨3,false,[.sc (.int .i64 y_25.2.1)]⟩),(3,⟨32,false,[.rd β1 a3_b0.length (a3_b0.flatMap encR45),.rd β2 a3_b1.length (a3_b1.flatMap encR93)]⟩),(4,⟨28,false,[.rd false y_25.2.2.length (y_25.2.2.flatMap (encI .i64))]⟩),(5,⟨121,false,[.clo (.func 78) [] [.ptr 2 0,.ptr 3 0,.ptr 4 0,.ptr 5 0]]⟩)]] [[],[],[],[2],[1,2,3],[],[],[],[],[1,2,3,4,6,7,8],[1,2,3,4,5,6,7,8,9],[0,1,2,3,4,5,6,7,8,9,10]] (by kernel_rfl) (by kernel_rfl) (BornL.ok (.o<| .o<| .o<| .o<| .o<| .o<| .o<| .o<| .o<| .b rfl rfl<| .b rfl rfl<| .b rfl rfl<| .b rfl rfl<| .b rfl rfl<| .b rfl rfl<| .b rfl rfl<| .b rfl rfl<| .b rfl rfl<| .b rfl rfl<| .b rfl rfl<| .b rfl rfl<| .n)) (BaseL.ok (.o rfl<| .o rfl<| .o rfl<| .o rfl<| .o rfl<| .o rfl<| .o rfl<| .o rfl<| .o rfl<| .b<| .b<| .b<| .b<| .b<| .b<| .b<| .b<| .b<| .b<| .b<| .b<| .n)) rfl (by decide) (allLt rfl) (.read rfl (.c (.put (fun E hE => .loadP (lt1 rfl) (.tmp (hE.at (k := 0) rfl)) one121 rfl rfl rfl)) (.c (.put (fun E hE => .loadP (lt1 rfl) (.tmp (hE.at (k := 0) rfl)) one121 rfl rfl rfl)) (.n)))<| .read rfl (.c (.put (fun E hE => .move (lt1 rfl) (.tmp (hE.at (k := 0) rfl)))) (.n))<| .pure rfl (fun H => .put (fun E hE => .move (lt1 rfl) (.tmp (hE.at (k := 0) rfl))))<| .pure rfl (fun H => .put (fun E hE => .frzAny (fun t ht => AStep.buildSlice (t := t) (out := ([y_22] : List Int).flatMap (encI .i64)) (lt1 rfl) ht (.cons (.tmp (hE.at (k := 0) rfl)) (by first | exact ⟨rfl,rfl⟩ | rfl) (.nil)) Try.underlying28 zero3 el3 (by decide) (by decide) rfl (still_all (encI_still .i64) _)) rfl (encI_len .i64)))<| .turn rfl rfl rfl rfl rfl (.turnput (fun E hE => .appC (enc := (encI .i64)) (lt1 rfl) (.tmp (hE.at (k := 0) rfl)) (Src.rd (.tmp (hE.at (k := 1) rfl)) (flatMap_length (encI_len .i64) _) (one_all (encI_one .i64) _) (.inl rfl)) Try.underlying28 ⟨_,Try.underlying28,by intro k hk; cases hk⟩ el3 rfl (encI_len .i64) rfl (by decide) hl1_23) rfl)<| .pure rfl (fun H => .put (fun E hE => .move (lt1 rfl) (.tmp (hE.at (k := 0) rfl))))<| .read rfl (.c (.put (fun E hE => .loadPA (lt1 rfl) (.tmp (hE.at (k := 0) rfl)) agg32 rfl rfl rfl rfl)) (.c (.put (fun E hE => .loadPA (lt1 rfl) (.tmp (hE.at (k := 0) rfl)) agg32 rfl rfl rfl rfl)) (.n)))<| .pure rfl (fun H => .put (fun E hE => .move (lt1 rfl) (.tmp (hE.at (k := 0) rfl))))<| .pure rfl (fun H => .put (fun E hE => .move (lt1 rfl) (.tmp (hE.at (k := 0) rfl))))<| .pure rfl (fun H => .put (fun E hE => .call0 (bw := false) (lt1 rfl) (c79 (β1 := β1) (β2 := β2) n (R24.mk a3_b0 a3_b1) y_1 y_22 hy_24) (.cons (.tmp (hE.at (k := 0) rfl)) (.ren rfl) (.cons (.tmp (hE.at (k := 1) rfl)) (.ren rfl) (.cons (.tmp (hE.at (k := 2) rfl)) (.ren rfl) (.nil)))) rfl))<| .pure rfl (fun H => .put (fun E hE => .add (lt1 rfl) (.tmp (hE.at (k := 0) rfl)) (.tmp (hE.at (k := 1) rfl))))<| .turn rfl rfl rfl rfl rfl (.called (fun E hE => AStep.callV (us' := []) (avs := [.ownc 1 1 l1_23.length a0_c,.sc (.int .i64 (IntKind.wrap .i64 (a1 + y_24)))]) (cs' := [.ptr 2 0,.ptr 3 0,.ptr 4 0,.ptr 5 0]) (σ := sgT [(1,1),(2,2),(3,3),(4,4),(5,5)]) (bw := false) (lt1 rfl) (.tmp (hE.at (k := 0) rfl)) (ih (β1 := β1) (β2 := β2) l1_23 a0_c (IntKind.wrap .i64 (a1 + y_24)) x_20.2.2.1 a3_b0 a3_b1 x_20.2.2.2 hy_25) (.nil) (.cons (.tmp (hE.at (k := 1) rfl)) (.ren rfl) (.cons (.tmp (hE.at (k := 2) rfl)) (.ren rfl) (.nil))) (.cons (.ren rfl) (.cons (.ren rfl) (.cons (.ren rfl) (.cons (.ren rfl) (.nil))))) (CallOk.mk' (.c rfl (.c rfl (.c rfl (.c rfl (.c rfl (.n)))))) rfl) (fun _ h => by cases h)) rfl rfl rfl)<| .nil _) (fun E hE => .c (DInv.at hE (k := 0) rfl rfl rfl)<| .c (DInv.at hE (k := 1) rfl rfl rfl)<| .c (DInv.at hE (k := 2) rfl rfl rfl)<| .c (DInv.at hE (k := 3) rfl rfl rfl)<| .c (DInv.at hE (k := 4) rfl rfl rfl)<| .c (DInv.at hE (k := 6) rfl rfl rfl)<| .c (DInv.at hE (k := 7) rfl rfl rfl)<| .c (DInv.at hE (k := 8) rfl rfl rfl)<| .n _) rfl ?_
          refine AWP.vc (s' := ⟨[(0,.ownc 1 1 a0_b.length a0_c),(1,.sc (.int .i64 a1)),(3,.ptr 3 0),(5,.ptr 5 0),(8,.sc (.int .i64 y_1)),(47,.rd false y_7.length (y_7.flatMap (encI .i64))),(48,.sc (.int .i64 (y_7.length : Int))),(49,.sc (.int .i64 x_20.1))],[(1,⟨3,true,y_25.1.flatMap (encI .i64)⟩),(2,⟨3,false,[.sc (.int .i64 y_25.2.1)]⟩),(3,⟨32,false,[.rd β1 a3_b0.length (a3_b0.flatMap encR45),.rd β2 a3_b1.length (a3_b1.flatMap encR93)]⟩),(4,⟨28,false,[.rd false y_25.2.2.length (y_25.2.2.flatMap (encI .i64))]⟩),(5,⟨121,false,[.clo (.func 78) [] [.ptr 2 0,.ptr 3 0,.ptr 4 0,.ptr 5 0]]⟩)]⟩) (VC.sub (.c rfl<| .c rfl<| .c rfl<| .c rfl<| .c rfl<| .c rfl<| .c rfl<| .c rfl<| .n _) (.c rfl<| .c rfl<| .c rfl<| .c rfl<| .c rfl<| .n _)) ?_
          obtain ⟨t49_26,ht49_26,h⟩ := letS h
          refine AWP.region (.cons (.add (lt1 rfl) (.tmp rfl) (.const _ _ _))<| .cons (.move (lt1 rfl) (.tmp rfl))<| ARun.nil _ _ _) ?_
          exact endJ (t49_26,y_25.1,y_25.2.1,y_25.2.2) h (by subst ht49_26; exact VC.sub (.c rfl<| .c rfl<| .c rfl<| .c rfl<| .c rfl<| .c rfl<| .c rfl<| .c rfl<| .n _) (.c rfl<| .c rfl<| .c rfl<| .c rfl<| .c rfl<| .n _))
        · have h := iteF hc h
          refine AWP.exit ?_
          exact endJ (x_20.2.1,x_20.2.2.1,x_20.2.2.2) h (VC.sub (.n _) (.c rfl<| .c rfl<| .c rfl<| .c rfl<| .c rfl<| .n _))
theorem c78 (n : Nat) {β1 : Bool} {β2 : Bool} (a0_b : (List Int)) (a0_c : Nat) (a1 : Int) (a2_b0 : Int) (a3_b0 : (List R45)) (a3_b1 : (List R93)) (a4_b0 : (List Int)) {r : ((List Int) × Int × (List Int))} (h : m78 n a0_b a0_c a1 a2_b0 a3_b0 a3_b1 a4_b0 = some r) : Spec Try.prog 78 [1,2,3,4,5] [.ownc 1 1 a0_b.length a0_c,.sc (.int .i64 a1),.ptr 2 0,.ptr 3 0,.ptr 4 0,.ptr 5 0] [(1,⟨3,true,a0_b.flatMap (encI .i64)⟩),(2,⟨3,false,[.sc (.int .i64 a2_b0)]⟩),(3,⟨32,false,[.rd β1 a3_b0.length (a3_b0.flatMap encR45),.rd β2 a3_b1.length (a3_b1.flatMap encR93)]⟩),(4,⟨28,false,[.rd false a4_b0.length (a4_b0.flatMap (encI .i64))]⟩),(5,⟨121,false,[.clo (.func 78) [] [.ptr 2 0,.ptr 3 0,.ptr 4 0,.ptr 5 0]]⟩)] (.tup []) [(1,⟨3,true,r.1.flatMap (encI .i64)⟩),(2,⟨3,false,[.sc (.int .i64 r.2.1)]⟩),(3,⟨32,false,[.rd β1 a3_b0.length (a3_b0.flatMap encR45),.rd β2 a3_b1.length (a3_b1.flatMap encR93)]⟩),(4,⟨28,false,[.rd false r.2.2.length (r.2.2.flatMap (encI .i64))]⟩),(5,⟨121,false,[.clo (.func 78) [] [.ptr 2 0,.ptr 3 0,.ptr 4 0,.ptr 5 0]]⟩)] := c78F n n a0_b a0_c a1 a2_b0 a3_b0 a3_b1 a4_b0 h
theorem c46 {β1 : Bool} {β2 : Bool} (n : Nat) (a0 : R24) {r : ((List Int) × Int)} (h : m46 n a0 = some r) : Spec Try.prog 46 [] [.agg [.rd β1 a0.Points.length (a0.Points.flatMap encR45),.rd β2 a0.Before.length (a0.Before.flatMap encR93)]] [] (.tup [.rd false r.1.length (r.1.flatMap (encI .i64)),.sc (.int .i64 r.2)]) [] := by
  refine Spec.of (fn := Try.f46) Try.func46 Try.ntmps46 rfl rfl (le1 rfl) (fun w0 Zs Zb T0 ι0 => ?_)
  unfold m46 at h
  refine AWP.seq ?_
  refine AWP.region (.cons (.box (t := 1) (n := 2) (lt1 rfl) (nm rfl) (.tmp rfl) (by first | exact ⟨rfl,rfl⟩ | rfl) rfl)<| .cons (.assign (lt1 rfl) (.const _ _ _))<| .cons (.assign (lt1 rfl) (.const _ _ _))<| ARun.nil _ _ _) ?_
  refine AWP.vc (s' := ⟨[(1,.ptr 1 0)],[(1,⟨32,false,[.rd β1 a0.Points.length (a0.Points.flatMap encR45),.rd β2 a0.Before.length (a0.Before.flatMap encR93)]⟩)]⟩) (VC.sub (.c rfl<| .n _) (.c rfl<| .n _)) ?_
  refine AWP.seq ?_
  refine AWP.region (.cons (.alloc (t := 2) (k := ⟨28,false,[.sc (.slice none 0 0)]⟩) (lt1 rfl) (nm rfl) zero28 rfl rfl)<| ARun.nil _ _ _) ?_
  refine AWP.vc (s' := ⟨[(1,.ptr 1 0),(4,.ptr 2 0)],[(2,⟨28,false,[.sc (.slice none 0 0)]⟩),(1,⟨32,false,[.rd β1 a0.Points.length (a0.Points.flatMap encR45),.rd β2 a0.Before.length (a0.Before.flatMap encR93)]⟩)]⟩) (VC.sub (.c rfl<| .c rfl<| .n _) (.c rfl<| .c rfl<| .n _)) ?_
  refine AWP.seq ?_
  refine AWP.region (.cons (.alloc (t := 3) (k := ⟨3,false,[.sc (.int .i64 (0 : Int))]⟩) (lt1 rfl) (nm rfl) zero3 rfl rfl)<| .cons (.storeP (.tmp rfl) (.const _ _ _) sz3 rfl (lt1 rfl) rfl (by intro h; cases h) rfl)<| ARun.nil _ _ _) ?_
  refine AWP.vc (s' := ⟨[(1,.ptr 1 0),(4,.ptr 2 0),(5,.ptr 3 0)],[(3,⟨3,false,[.sc (.int .i64 (-1 : Int))]⟩),(2,⟨28,false,[.sc (.slice none 0 0)]⟩),(1,⟨32,false,[.rd β1 a0.Points.length (a0.Points.flatMap encR45),.rd β2 a0.Before.length (a0.Before.flatMap encR93)]⟩)]⟩) (VC.sub (.c rfl<| .c rfl<| .c rfl<| .n _) (.c rfl<| .c rfl<| .c rfl<| .n _)) ?_
  refine AWP.seq ?_
  refine AWP.region (.cons (.alloc (t := 4) (k := ⟨121,false,[.sc (.nilFunc)]⟩) (lt1 rfl) (nm rfl) zero121 rfl rfl)<| ARun.nil _ _ _) ?_
  refine AWP.vc (s' := ⟨[(1,.ptr 1 0),(4,.ptr 2 0),(5,.ptr 3 0),(6,.ptr 4 0)],[(4,⟨121,false,[.sc (.nilFunc)]⟩),(3,⟨3,false,[.sc (.int .i64 (-1 : Int))]⟩),(2,⟨28,false,[.sc (.slice none 0 0)]⟩),(1,⟨32,false,[.rd β1 a0.Points.length (a0.Points.flatMap encR45),.rd β2 a0.Before.length (a0.Before.flatMap encR93)]⟩)]⟩) (VC.sub (.c rfl<| .c rfl<| .c rfl<| .c rfl<| .n _) (.c rfl<| .c rfl<| .c rfl<| .c rfl<| .n _)) ?_
  refine AWP.seq ?_
  refine AWP.region (.cons (.makeFunc (lt1 rfl) (.nil) (.cons (.tmp rfl) (.cons (.tmp rfl) (.cons (.tmp rfl) (.cons (.tmp rfl) (.nil))))))<| .cons (.storeP (.tmp rfl) (.tmp rfl) sz121 rfl (lt1 rfl) rfl (by intro h; cases h) rfl)<| ARun.nil _ _ _) ?_
  refine AWP.vc (s' := ⟨[(1,.ptr 1 0),(4,.ptr 2 0),(5,.ptr 3 0),(6,.ptr 4 0)],[(4,⟨121,false,[.clo (.func 78) [] [.ptr 3 0,.ptr 1 0,.ptr 2 0,.ptr 4 0]]⟩),(3,⟨3,false,[.sc (.int .i64 (-1 : Int))]⟩),(2,⟨28,false,[.sc (.slice none 0 0)]⟩),(1,⟨32,false,[.rd β1 a0.Points.length (a0.Points.flatMap encR45),.rd β2 a0.Before.length (a0.Before.flatMap encR93)]⟩)]⟩) (VC.sub (.c rfl<| .c rfl<| .c rfl<| .c rfl<| .n _) (.c rfl<| .c rfl<| .c rfl<| .c rfl<| .n _)) ?_
  refine AWP.seq ?_
  refine AWP.vc (VC.cell (t := 2) (i := 0) (v' := .rd false 0 []) rfl rfl rfl (fun _ _ _ _ h => nil_rd h)) ?_
  obtain ⟨l5_1,hl5_1,h⟩ := bindS h
  obtain ⟨l5_2,hl5_2,h⟩ := bindS h
  obtain ⟨y_3,hy_3,h⟩ := bindS h
  refine AWP.draw (s' := ⟨[(4,.ptr 2 0),(5,.ptr 3 0)],[(5,⟨3,true,y_3.1.flatMap (encI .i64)⟩),(3,⟨3,false,[.sc (.int .i64 y_3.2.1)]⟩),(1,⟨32,false,[.rd β1 a0.Points.length (a0.Points.flatMap encR45),.rd β2 a0.Before.length (a0.Before.flatMap encR93)]⟩),(2,⟨28,false,[.rd false y_3.2.2.length (y_3.2.2.flatMap (encI .i64))]⟩),(4,⟨121,false,[.clo (.func 78) [] [.ptr 3 0,.ptr 1 0,.ptr 2 0,.ptr 4 0]]⟩)]⟩) mixed [⟨1,.ptr 1 0,none,[]⟩,⟨4,.ptr 2 0,none,[]⟩,⟨5,.ptr 3 0,none,[]⟩,⟨6,.ptr 4 0,none,[]⟩,⟨8,.clo (.func 78) [] [.ptr 3 0,.ptr 1 0,.ptr 2 0,.ptr 4 0],some 0,[]⟩,⟨9,.ptr 1 (0 + 0),some 1,[]⟩,⟨10,.rd β1 a0.Points.length (a0.Points.flatMap encR45),some 2,[]⟩,⟨11,.sc (.int .i64 (a0.Points.length : Int)),some 3,[]⟩,⟨12,.ownc 5 1 l5_1.length (((a0.Points.length : Int)).toNat),some 4,[]⟩,⟨13,.rd false ([(0 : Int)] : List Int).length (([(0 : Int)] : List Int).flatMap (encI .i64)),some 5,[]⟩,⟨14,.ownc 5 1 l5_2.length (((a0.Points.length : Int)).toNat),some 6,[]⟩,⟨15,.tup [],some 7,[]⟩] [⟨[3],0,2,some (8,.clo (.func 78) [] [.ptr 3 0,.ptr 1 0,.ptr 2 0,.ptr 4 0]),[]⟩,⟨[0],0,0,some (9,.ptr 1 (0 + 0)),[]⟩,⟨[5],0,0,some (10,.rd β1 a0.Points.length (a0.Points.flatMap encR45)),[]⟩,⟨[6],0,3,some (11,.sc (.int .i64 (a0.Points.length : Int))),[]⟩,⟨[7],0,0,some (12,.ownc 5 1 l5_1.length (((a0.Points.length : Int)).toNat)),[5]⟩,⟨[],0,3,some (13,.rd false ([(0 : Int)] : List Int).length (([(0 : Int)] : List Int).flatMap (encI .i64))),[]⟩,⟨[8,9],1,1,some (14,.ownc 5 1 l5_2.length (((a0.Points.length : Int)).toNat)),[]⟩,⟨[4,10],2,2,some (15,.tup []),[]⟩] [4,6,7] [[(4,⟨121,false,[.clo (.func 78) [] [.ptr 3 0,.ptr 1 0,.ptr 2 0,.ptr 4 0]]⟩),(3,⟨3,false,[.sc (.int .i64 (-1 : Int))]⟩),(2,⟨28,false,[.rd false ([] : List Int).length (([] : List Int).flatMap (encI .i64))]⟩),(1,⟨32,false,[.rd β1 a0.Points.length (a0.Points.flatMap encR45),.rd β2 a0.Before.length (a0.Before.flatMap encR93)]⟩)],[(5,⟨3,true,l5_1.flatMap (encI .i64)⟩),(4,⟨121,false,[.clo (.func 78) [] [.ptr 3 0,.ptr 1 0,.ptr 2 0,.ptr 4 0]]⟩),(3,⟨3,false,[.sc (.int .i64 (-1 : Int))]⟩),(2,⟨28,false,[.rd false ([] : List Int).length (([] : List Int).flatMap (encI .i64))]⟩),(1,⟨32,false,[.rd β1 a0.Points.length (a0.Points.flatMap encR45),.rd β2 a0.Before.length (a0.Before.flatMap encR93)]⟩)],[(5,⟨3,true,l5_2.flatMap (encI .i64)⟩),(4,⟨121,false,[.clo (.func 78) [] [.ptr 3 0,.ptr 1 0,.ptr 2 0,.ptr 4 0]]⟩),(3,⟨3,false,[.sc (.int .i64 (-1 : Int))]⟩),(2,⟨28,false,[.rd false ([] : List Int).length (([] : List Int).flatMap (encI .i64))]⟩),(1,⟨32,false,[.rd β1 a0.Points.length (a0.Points.flatMap encR45),.rd β2 a0.Before.length (a0.Before.flatMap encR93)]⟩)],[(5,⟨3,true,y_3.1.flatMap (encI .i64)⟩),(3,⟨3,false,[.sc (.int .i64 y_3.2.1)]⟩),(1,⟨32,false,[.rd β1 a0.Points.length (a0.Points.flatMap encR45),.rd β2 a0.Before.length (a0.Before.flatMap encR93)]⟩),(2,⟨28,false,[.rd false y_3.2.2.length (y_3.2.2.flatMap (encI .i64))]⟩),(4,⟨121,false,[.clo (.func 78) [] [.ptr 3 0,.ptr 1 0,.ptr 2 0,.ptr 4 0]]⟩)]] [[],[],[1],[1,2],[1,2,3],[],[1,2,3,4,5],[0,1,2,3,4,5,6]] (by kernel_rfl) (by kernel_rfl) (BornL.ok (.o<| .o<| .o<| .o<| .b rfl rfl<| .b rfl rfl<| .b rfl rfl<| .b rfl rfl<| .b rfl rfl<| .b rfl rfl<| .b rfl rfl<| .b rfl rfl<| .n)) (BaseL.ok (.o rfl<| .o rfl<| .o rfl<| .o rfl<| .b<| .b<| .b<| .b<| .b<| .b<| .b<| .b<| .n)) rfl (by decide) (allLt rfl) (.read rfl (.c (.put (fun E hE => .loadP (lt1 rfl) (.tmp (hE.at (k := 0) rfl)) one121 rfl rfl rfl)) (.c (.put (fun E hE => .loadP (lt1 rfl) (.tmp (hE.at (k := 0) rfl)) one121 rfl rfl rfl)) (.c (.put (fun E hE => .loadP (lt1 rfl) (.tmp (hE.at (k := 0) rfl)) one121 rfl rfl rfl)) (.n))))<| .read rfl (.c (.put (fun E hE => .fieldP (lt1 rfl) (.tmp (hE.at (k := 0) rfl)) fld32_0)) (.n))<| .read rfl (.c (.put (fun E hE => .loadP (lt1 rfl) (.tmp (hE.at (k := 0) rfl)) one22 rfl rfl rfl)) (.n))<| .pure rfl (fun H => .put (fun E hE => .lenRd (lt1 rfl) (.tmp (hE.at (k := 0) rfl)) Try.underlying22))<| .turn rfl rfl rfl rfl rfl (.new (fun E hE => .mkC (enc := (encI .i64)) (t := 5) (lt1 rfl) (nm rfl) (.const _ _ _) (.tmp (hE.at (k := 0) rfl)) Try.underlying28 zero3 el3 rfl (encI_len .i64) (by decide) hl5_1) rfl)<| .pure rfl (fun H => .put (fun E hE => .frzAny (fun t ht => AStep.buildSlice (t := t) (out := ([(0 : Int)] : List Int).flatMap (encI .i64)) (lt1 rfl) ht (.cons (.const _ _ _) (by first | exact ⟨rfl,rfl⟩ | rfl) (.nil)) Try.underlying28 zero3 el3 (by decide) (by decide) rfl (still_all (encI_still .i64) _)) rfl (encI_len .i64)))<| .turn rfl rfl rfl rfl rfl (.turnput (fun E hE => .appC (enc := (encI .i64)) (lt1 rfl) (.tmp (hE.at (k := 0) rfl)) (Src.rd (.tmp (hE.at (k := 1) rfl)) (flatMap_length (encI_len .i64) _) (one_all (encI_one .i64) _) (.inl rfl)) Try.underlying28 ⟨_,Try.underlying28,by intro k hk; cases hk⟩ el3 rfl (encI_len .i64) rfl (by decide) hl5_2) rfl)<| .turn rfl rfl rfl rfl rfl (.called (fun E hE => AStep.callV (us' := []) (avs := [.ownc 1 1 l5_2.length (((a0.Points.length : Int)).toNat),.sc (.int .i64 (0 : Int))]) (cs' := [.ptr 2 0,.ptr 3 0,.ptr 4 0,.ptr 5 0]) (σ := sgT [(1,5),(2,3),(3,1),(4,2),(5,4)]) (bw := false) (lt1 rfl) (.tmp (hE.at (k := 0) rfl)) (c78 (β1 := β1) (β2 := β2) n l5_2 (((a0.Points.length : Int)).toNat) (0 : Int) (-1 : Int) a0.Points a0.Before ([] : List Int) hy_3) (.nil) (.cons (.tmp (hE.at (k := 1) rfl)) (.ren rfl) (.cons (.const _ _ _) (.ren rfl) (.nil))) (.cons (.ren rfl) (.cons (.ren rfl) (.cons (.ren rfl) (.cons (.ren rfl) (.nil))))) (CallOk.mk' (.c rfl (.c rfl (.c rfl (.c rfl (.c rfl (.n)))))) rfl) (fun _ h => by cases h)) rfl rfl rfl)<| .nil _) (fun E hE => .c (DInv.at hE (k := 1) rfl rfl rfl)<| .c (DInv.at hE (k := 2) rfl rfl rfl)<| .n _) rfl ?_
  refine AWP.vc (s' := ⟨[(4,.ptr 2 0),(5,.ptr 3 0)],[(3,⟨3,false,[.sc (.int .i64 y_3.2.1)]⟩),(2,⟨28,false,[.rd false y_3.2.2.length (y_3.2.2.flatMap (encI .i64))]⟩)]⟩) (VC.sub (.c rfl<| .c rfl<| .n _) (.c rfl<| .c rfl<| .n _)) ?_
  refine AWP.seq ?_
  refine AWP.draw (s' := ⟨[(2,.rd false y_3.2.2.length (y_3.2.2.flatMap (encI .i64))),(3,.sc (.int .i64 y_3.2.1))],[(3,⟨3,false,[.sc (.int .i64 y_3.2.1)]⟩),(2,⟨28,false,[.rd false y_3.2.2.length (y_3.2.2.flatMap (encI .i64))]⟩)]⟩) mixed [⟨4,.ptr 2 0,none,[]⟩,⟨5,.ptr 3 0,none,[]⟩,⟨16,.rd false y_3.2.2.length (y_3.2.2.flatMap (encI .i64)),some 0,[]⟩,⟨17,.sc (.int .i64 y_3.2.1),some 1,[]⟩,⟨2,.rd false y_3.2.2.length (y_3.2.2.flatMap (encI .i64)),some 2,[]⟩,⟨3,.sc (.int .i64 y_3.2.1),some 3,[]⟩] [⟨[0],0,0,some (16,.rd false y_3.2.2.length (y_3.2.2.flatMap (encI .i64))),[]⟩,⟨[1],0,0,some (17,.sc (.int .i64 y_3.2.1)),[]⟩,⟨[2],0,0,some (2,.rd false y_3.2.2.length (y_3.2.2.flatMap (encI .i64))),[]⟩,⟨[3],0,0,some (3,.sc (.int .i64 y_3.2.1)),[]⟩] [] [[(3,⟨3,false,[.sc (.int .i64 y_3.2.1)]⟩),(2,⟨28,false,[.rd false y_3.2.2.length (y_3.2.2.flatMap (encI .i64))]⟩)]] [[],[],[0],[0,1,2]] (by kernel_rfl) (by kernel_rfl) (BornL.ok (.o<| .o<| .b rfl rfl<| .b rfl rfl<| .b rfl rfl<| .b rfl rfl<| .n)) (BaseL.ok (.o rfl<| .o rfl<| .b<| .b<| .b<| .b<| .n)) rfl (by decide) (allLt rfl) (.read rfl (.c (.put (fun E hE => .loadP (lt1 rfl) (.tmp (hE.at (k := 0) rfl)) one28 rfl rfl rfl)) .n)<| .read rfl (.c (.put (fun E hE => .loadP (lt1 rfl) (.tmp (hE.at (k := 0) rfl)) one3 rfl rfl rfl)) .n)<| .pure rfl (fun H => .put (fun E hE => .assign (lt1 rfl) (.tmp (hE.at (k := 0) rfl))))<| .pure rfl (fun H => .put (fun E hE => .assign (lt1 rfl) (.tmp (hE.at (k := 0) rfl))))<| .nil _) (fun E hE => .c (DInv.at hE (k := 4) rfl rfl rfl)<| .c (DInv.at hE (k := 5) rfl rfl rfl)<| .n _) rfl ?_
  refine AWP.ret ?_
  obtain rfl := Option.some.inj h
  refine retJ (Res.vc (s' := ⟨[(2,.rd false y_3.2.2.length (y_3.2.2.flatMap (encI .i64))),(3,.sc (.int .i64 y_3.2.1))],[]⟩) (VC.sub (.c rfl<| .c rfl<| .n _) (.n _)) ?_)
  refine Res.drop (H := []) rfl ?_
  exact Res.of rfl (.cons (.tmp rfl) (.cons (.tmp rfl) (.nil))) rfl rfl
theorem c13 {β1 : Bool} {β2 : Bool} (n : Nat) (a0 : R24) {r : ((List Int) × Int × Int)} (h : m13 n a0 = some r) : Spec Try.prog 13 [] [.agg [.rd β1 a0.Points.length (a0.Points.flatMap encR45),.rd β2 a0.Before.length (a0.Before.flatMap encR93)]] [] (.tup [.rd false r.1.length (r.1.flatMap (encI .i64)),.sc (.int .i64 r.2.1),.sc (.int .i64 r.2.2)]) [] := by
  refine Spec.of (fn := Try.f13) Try.func13 Try.ntmps13 rfl rfl (le1 rfl) (fun w0 Zs Zb T0 ι0 => ?_)
  unfold m13 at h
  refine AWP.seq ?_
  refine AWP.region (.cons (.box (t := 1) (n := 2) (lt1 rfl) (nm rfl) (.tmp rfl) (by first | exact ⟨rfl,rfl⟩ | rfl) rfl)<| .cons (.assign (lt1 rfl) (.const _ _ _))<| .cons (.assign (lt1 rfl) (.const _ _ _))<| .cons (.assign (lt1 rfl) (.const _ _ _))<| ARun.nil _ _ _) ?_
  refine AWP.vc (s' := ⟨[(1,.ptr 1 0)],[(1,⟨32,false,[.rd β1 a0.Points.length (a0.Points.flatMap encR45),.rd β2 a0.Before.length (a0.Before.flatMap encR93)]⟩)]⟩) (VC.sub (.c rfl<| .n _) (.c rfl<| .n _)) ?_
  refine AWP.seq ?_
  refine AWP.block ?_
  refine AWP.seq ?_
  obtain ⟨y_1,hy_1,h⟩ := bindS h
  refine AWP.region (.cons (.loadPA (lt1 rfl) (.tmp rfl) agg32 rfl rfl rfl rfl)<| .cons (.call0 (bw := false) (lt1 rfl) (c22 (β1 := β1) (β2 := β2) n (R24.mk a0.Points a0.Before) hy_1) (.cons (.tmp rfl) (.ren rfl) (.nil)) rfl)<| .cons (.not (lt1 rfl) (.tmp rfl))<| .cons (.assign (lt1 rfl) (.tmp rfl))<| ARun.nil _ _ _) ?_
  refine AWP.vc (s' := ⟨[(1,.ptr 1 0),(7,.sc (.bool (!y_1)))],[(1,⟨32,false,[.rd β1 a0.Points.length (a0.Points.flatMap encR45),.rd β2 a0.Before.length (a0.Before.flatMap encR93)]⟩)]⟩) (VC.sub (.c rfl<| .c rfl<| .n _) (.c rfl<| .n _)) ?_
  refine AWP.cond (.tmp rfl) (fun hc => ?_) (fun hc => ?_)
  · have h := iteT hc h
    refine AWP.seq ?_
    refine AWP.region (.cons (.assign (lt1 rfl) (.const _ _ _))<| .cons (.assign (lt1 rfl) (.const _ _ _))<| .cons (.assign (lt1 rfl) (.const _ _ _))<| ARun.nil _ _ _) ?_
    refine AWP.ret ?_
    obtain rfl := Option.some.inj h
    refine retJ (Res.vc (s' := ⟨[(2,.rd false ([] : List Int).length (([] : List Int).flatMap (encI .i64))),(3,.sc (.int .i64 (0 : Int))),(4,.sc (.int .i64 (1 : Int)))],[]⟩) (VC.trans (VC.nilRd (d := 2) false rfl) (VC.sub (.c rfl<| .c rfl<| .c rfl<| .n _) (.n _))) ?_)
    refine Res.drop (H := []) rfl ?_
    exact Res.of rfl (.cons (.tmp rfl) (.cons (.tmp rfl) (.cons (.tmp rfl) (.nil)))) rfl rfl
  · have h := iteF hc h
    refine AWP.seq ?_
    refine AWP.region (.cons (.fieldP (lt1 rfl) (.tmp rfl) fld32_0)<| .cons (.loadP (lt1 rfl) (.tmp rfl) one22 rfl rfl rfl)<| .cons (.lenRd (lt1 rfl) (.tmp rfl) Try.underlying22)<| .cons (.gtr (lt1 rfl) (.tmp rfl) (.const _ _ _))<| .cons (.assign (lt1 rfl) (.tmp rfl))<| ARun.nil _ _ _) ?_
    refine AWP.vc (s' := ⟨[(1,.ptr 1 0),(11,.sc (.bool (decide ((8 : Int) < (a0.Points.length : Int)))))],[(1,⟨32,false,[.rd β1 a0.Points.length (a0.Points.flatMap encR45),.rd β2 a0.Before.length (a0.Before.flatMap encR93)]⟩)]⟩) (VC.sub (.c rfl<| .c rfl<| .n _) (.c rfl<| .n _)) ?_
    refine AWP.cond (.tmp rfl) (fun hc => ?_) (fun hc => ?_)
    · have h := iteT hc h
      refine AWP.seq ?_
      refine AWP.region (.cons (.assign (lt1 rfl) (.const _ _ _))<| .cons (.assign (lt1 rfl) (.const _ _ _))<| .cons (.assign (lt1 rfl) (.const _ _ _))<| ARun.nil _ _ _) ?_
      refine AWP.ret ?_
      obtain rfl := Option.some.inj h
      refine retJ (Res.vc (s' := ⟨[(2,.rd false ([] : List Int).length (([] : List Int).flatMap (encI .i64))),(3,.sc (.int .i64 (0 : Int))),(4,.sc (.int .i64 (9 : Int)))],[]⟩) (VC.trans (VC.nilRd (d := 2) false rfl) (VC.sub (.c rfl<| .c rfl<| .c rfl<| .n _) (.n _))) ?_)
      refine Res.drop (H := []) rfl ?_
      exact Res.of rfl (.cons (.tmp rfl) (.cons (.tmp rfl) (.cons (.tmp rfl) (.nil)))) rfl rfl
    · have h := iteF hc h
      refine AWP.skip ?_
      refine AWP.seq ?_
      obtain ⟨y_2,hy_2,h⟩ := bindS h
      refine AWP.region (.cons (.loadPA (lt1 rfl) (.tmp rfl) agg32 rfl rfl rfl rfl)<| .cons (.call0 (bw := false) (lt1 rfl) (c46 (β1 := β1) (β2 := β2) n (R24.mk a0.Points a0.Before) hy_2) (.cons (.tmp rfl) (.ren rfl) (.nil)) rfl)<| .cons (.move (lt1 rfl) (.tmp rfl))<| .cons (.extract (lt1 rfl) (.tmp rfl) rfl)<| .cons (.extract (lt1 rfl) (.tmp rfl) rfl)<| .cons (.assign (lt1 rfl) (.tmp rfl))<| .cons (.assign (lt1 rfl) (.tmp rfl))<| ARun.nil _ _ _) ?_
      refine AWP.vc (s' := ⟨[(5,.rd false y_2.1.length (y_2.1.flatMap (encI .i64))),(6,.sc (.int .i64 y_2.2))],[]⟩) (VC.sub (.c rfl<| .c rfl<| .n _) (.n _)) ?_
      refine AWP.seq ?_
      refine AWP.region (.cons (.move (lt1 rfl) (.tmp rfl))<| .cons (.move (lt1 rfl) (.tmp rfl))<| .cons (.assign (lt1 rfl) (.tmp rfl))<| .cons (.assign (lt1 rfl) (.tmp rfl))<| .cons (.assign (lt1 rfl) (.const _ _ _))<| ARun.nil _ _ _) ?_
      refine AWP.ret ?_
      obtain rfl := Option.some.inj h
      refine retJ (Res.vc (s' := ⟨[(2,.rd false y_2.1.length (y_2.1.flatMap (encI .i64))),(3,.sc (.int .i64 y_2.2)),(4,.sc (.int .i64 (0 : Int)))],[]⟩) (VC.sub (.c rfl<| .c rfl<| .c rfl<| .n _) (.n _)) ?_)
      refine Res.drop (H := []) rfl ?_
      exact Res.of rfl (.cons (.tmp rfl) (.cons (.tmp rfl) (.cons (.tmp rfl) (.nil)))) rfl rfl
theorem c81 (n : Nat) (a0 : Int) {r : Bool} (h : m81 n a0 = some r) : Spec Try.prog 81 [] [.sc (.int .i64 a0)] [] (.sc (.bool r)) [] := by
  refine Spec.of (fn := Try.f81) Try.func81 Try.ntmps81 rfl rfl (le1 rfl) (fun w0 Zs Zb T0 ι0 => ?_)
  unfold m81 at h
  refine AWP.seq ?_
  refine AWP.region (.cons (.assign (lt1 rfl) (.const _ _ _))<| ARun.nil _ _ _) ?_
  refine AWP.vc (s' := ⟨[(0,.sc (.int .i64 a0))],[]⟩) (VC.sub (.c rfl<| .n _) (.n _)) ?_
  refine AWP.seq ?_
  refine AWP.region (.cons (.move (lt1 rfl) (.tmp rfl))<| .cons (.lss (lt1 rfl) (.tmp rfl) (.const _ _ _))<| .cons (.move (lt1 rfl) (.tmp rfl))<| .guard (j := 2) (dj := 5) rfl (lt1 rfl) rfl (lt1 rfl) (fun hg => .move (lt1 rfl) (.tmp rfl))<| .guard (j := 2) (dj := 5) rfl (lt1 rfl) rfl (lt1 rfl) (fun hg => .gtr (lt1 rfl) (.gd hg (.tmp rfl)) (.const _ _ _))<| .cons (.pickOr (lt1 rfl) (.tmp rfl) (.const _ _ _) (.tmp rfl))<| .cons (.assign (lt1 rfl) (.tmp rfl))<| ARun.nil _ _ _) ?_
  refine AWP.ret ?_
  obtain rfl := Option.some.inj h
  refine retJ (Res.vc (s' := ⟨[(2,.sc (.bool ((decide (a0 < (-20000 : Int))) || (decide ((20000 : Int) < a0)))))],[]⟩) (VC.sub (.c rfl<| .n _) (.n _)) ?_)
  refine Res.drop (H := []) rfl ?_
  exact Res.of rfl (.cons (.tmp rfl) (.nil)) rfl rfl
theorem c101 {β1 : Bool} (n : Nat) (a0 : (List Int)) {r : Int} (h : m101 n a0 = some r) : Spec Try.prog 101 [] [.rd β1 a0.length (a0.flatMap (encI .i64)),.clo (.func 81) [] []] [] (.sc (.int .i64 r)) [] := by
  refine Spec.of (fn := Try.f101) Try.func101 Try.ntmps101 rfl rfl (le1 rfl) (fun w0 Zs Zb T0 ι0 => ?_)
  unfold m101 at h
  refine AWP.seq ?_
  refine AWP.region (.cons (.assign (lt1 rfl) (.const _ _ _))<| ARun.nil _ _ _) ?_
  refine AWP.vc (s' := ⟨[(0,.rd β1 a0.length (a0.flatMap (encI .i64))),(1,.clo (.func 81) [] [])],[]⟩) (VC.sub (.c rfl<| .c rfl<| .n _) (.n _)) ?_
  refine AWP.seq ?_
  refine AWP.seq ?_
  refine AWP.region (.cons (.move (lt1 rfl) (.tmp rfl))<| .cons (.lenRd (lt1 rfl) (.tmp rfl) Try.underlying28)<| .cons (.move (lt1 rfl) (.const _ _ _))<| ARun.nil _ _ _) ?_
  refine AWP.vc (s' := ⟨[(0,.rd β1 a0.length (a0.flatMap (encI .i64))),(1,.clo (.func 81) [] []),(7,.sc (.int .i64 (a0.length : Int))),(8,.sc (.int .i64 (0 : Int)))],[]⟩) (VC.sub (.c rfl<| .c rfl<| .c rfl<| .c rfl<| .n _) (.n _)) ?_
  refine AWP.joinB' (S := fun p_10 : Unit => ⟨[],[]⟩) h (fun p_10 h => ?_) (fun k_11 h => ?_)
  · refine AWP.seq ?_
    refine AWP.region (.cons (.assign (lt1 rfl) (.const _ _ _))<| ARun.nil _ _ _) ?_
    refine AWP.ret ?_
    obtain rfl := Option.some.inj h
    refine retJ (Res.vc (s' := ⟨[(4,.sc (.int .i64 (-1 : Int)))],[]⟩) (VC.sub (.c rfl<| .n _) (.n _)) ?_)
    refine Res.drop (H := []) rfl ?_
    exact Res.of rfl (.cons (.tmp rfl) (.nil)) rfl rfl
  · refine AWP.vc (s' := ⟨[(0,.rd β1 a0.length (a0.flatMap (encI .i64))),(1,.clo (.func 81) [] []),(7,.sc (.int .i64 (a0.length : Int))),(8,.sc (.int .i64 (0 : Int)))],[]⟩) (VC.sub (.c rfl<| .c rfl<| .c rfl<| .c rfl<| .n _) (.n _)) ?_
    refine AWP.loopM (S := fun x_5 : Int => ⟨[(0,.rd β1 a0.length (a0.flatMap (encI .i64))),(1,.clo (.func 81) [] []),(7,.sc (.int .i64 (a0.length : Int))),(8,.sc (.int .i64 x_5))],[]⟩) (x := (0 : Int)) (fun nx_6 x_5 h => ?_) h
    unfold m101_L1 at h
    refine AWP.seq ?_
    refine AWP.region (.cons (.lss (lt1 rfl) (.tmp rfl) (.tmp rfl))<| ARun.nil _ _ _) ?_
    refine AWP.vc (s' := ⟨[(0,.rd β1 a0.length (a0.flatMap (encI .i64))),(1,.clo (.func 81) [] []),(7,.sc (.int .i64 (a0.length : Int))),(8,.sc (.int .i64 x_5)),(9,.sc (.bool (decide (x_5 < (a0.length : Int)))))],[]⟩) (VC.sub (.c rfl<| .c rfl<| .c rfl<| .c rfl<| .c rfl<| .n _) (.n _)) ?_
    refine AWP.seq ?_
    refine AWP.cond (.tmp rfl) (fun hc => ?_) (fun hc => ?_)
    · have h := iteT hc h
      refine AWP.skip ?_
      refine AWP.seq ?_
      refine AWP.block ?_
      refine AWP.seq ?_
      refine AWP.region (.cons (.move (lt1 rfl) (.tmp rfl))<| .cons (.assign (lt1 rfl) (.tmp rfl))<| ARun.nil _ _ _) ?_
      refine AWP.vc (s' := ⟨[(0,.rd β1 a0.length (a0.flatMap (encI .i64))),(1,.clo (.func 81) [] []),(7,.sc (.int .i64 (a0.length : Int))),(8,.sc (.int .i64 x_5)),(5,.sc (.int .i64 x_5))],[]⟩) (VC.sub (.c rfl<| .c rfl<| .c rfl<| .c rfl<| .c rfl<| .n _) (.n _)) ?_
      refine AWP.seq ?_
      obtain ⟨y_7,hy_7,h⟩ := bindS h
      obtain ⟨y_8,hy_8,h⟩ := bindS h
      refine AWP.region (.cons (.move (lt1 rfl) (.tmp rfl))<| .cons (.move (lt1 rfl) (.tmp rfl))<| .cons (.move (lt1 rfl) (.tmp rfl))<| .cons (.indexRd (enc := (encI .i64)) (lt1 rfl) (.tmp rfl) (.tmp rfl) Try.underlying28 sz3 (encI_len .i64) rfl hy_7)<| .cons (.loadR (v := .sc (.int .i64 y_7)) (lt1 rfl) (.tmp rfl) one3 rfl)<| .cons (.keep (bw := false) (AStep.callV (us' := []) (avs := [.sc (.int .i64 y_7)]) (cs' := []) (σ := sgT []) (bw := false) (lt1 rfl) (.tmp rfl) (c81 n y_7 hy_8) (.nil) (.cons (.tmp rfl) (.ren rfl) (.nil)) (.nil) (CallOk.mk' (.n) rfl) (fun _ h => by cases h)) (CallOk.mk' (.n) rfl) rfl rfl)<| ARun.nil _ _ _) ?_
      refine AWP.vc (s' := ⟨[(0,.rd β1 a0.length (a0.flatMap (encI .i64))),(1,.clo (.func 81) [] []),(7,.sc (.int .i64 (a0.length : Int))),(8,.sc (.int .i64 x_5)),(5,.sc (.int .i64 x_5)),(16,.sc (.bool y_8))],[]⟩) (VC.sub (.c rfl<| .c rfl<| .c rfl<| .c rfl<| .c rfl<| .c rfl<| .n _) (.n _)) ?_
      refine AWP.cond (.tmp rfl) (fun hc => ?_) (fun hc => ?_)
      · have h := iteT hc h
        refine AWP.seq ?_
        refine AWP.region (.cons (.move (lt1 rfl) (.tmp rfl))<| .cons (.assign (lt1 rfl) (.tmp rfl))<| ARun.nil _ _ _) ?_
        refine AWP.ret ?_
        obtain rfl := Option.some.inj h
        refine retJ (Res.vc (s' := ⟨[(4,.sc (.int .i64 x_5))],[]⟩) (VC.sub (.c rfl<| .n _) (.n _)) ?_)
        refine Res.drop (H := []) rfl ?_
        exact Res.of rfl (.cons (.tmp rfl) (.nil)) rfl rfl
      · have h := iteF hc h
        refine AWP.skip ?_
        obtain ⟨t8_9,ht8_9,h⟩ := letS h
        refine AWP.region (.cons (.add (lt1 rfl) (.tmp rfl) (.const _ _ _))<| .cons (.move (lt1 rfl) (.tmp rfl))<| ARun.nil _ _ _) ?_
        exact endJ t8_9 h (by subst ht8_9; exact VC.sub (.c rfl<| .c rfl<| .c rfl<| .c rfl<| .n _) (.n _))
    · have h := iteF hc h
      refine AWP.exit ?_
      exact endJ () h (VC.sub (.n _) (.n _))
theorem c80 {β1 : Bool} (n : Nat) (a0 : (List Int)) {r : Bool} (h : m80 n a0 = some r) : Spec Try.prog 80 [] [.rd β1 a0.length (a0.flatMap (encI .i64)),.clo (.func 81) [] []] [] (.sc (.bool r)) [] := by
  refine Spec.of (fn := Try.f80) Try.func80 Try.ntmps80 rfl rfl (le1 rfl) (fun w0 Zs Zb T0 ι0 => ?_)
  unfold m80 at h
  refine AWP.seq ?_
  refine AWP.region (.cons (.assign (lt1 rfl) (.const _ _ _))<| ARun.nil _ _ _) ?_
  refine AWP.vc (s' := ⟨[(0,.rd β1 a0.length (a0.flatMap (encI .i64))),(1,.clo (.func 81) [] [])],[]⟩) (VC.sub (.c rfl<| .c rfl<| .n _) (.n _)) ?_
  refine AWP.seq ?_
  obtain ⟨y_1,hy_1,h⟩ := bindS h
  refine AWP.region (.cons (.move (lt1 rfl) (.tmp rfl))<| .cons (.move (lt1 rfl) (.tmp rfl))<| .cons (.call0 (bw := false) (lt1 rfl) (c101 (β1 := β1) n a0 hy_1) (.cons (.tmp rfl) (.ren rfl) (.cons (.tmp rfl) (.ren rfl) (.nil))) rfl)<| .cons (.geq (lt1 rfl) (.tmp rfl) (.const _ _ _))<| .cons (.assign (lt1 rfl) (.tmp rfl))<| ARun.nil _ _ _) ?_
  refine AWP.ret ?_
  obtain rfl := Option.some.inj h
  refine retJ (Res.vc (s' := ⟨[(4,.sc (.bool (decide ((0 : Int) ≤ y_1))))],[]⟩) (VC.sub (.c rfl<| .n _) (.n _)) ?_)
  refine Res.drop (H := []) rfl ?_
  exact Res.of rfl (.cons (.tmp rfl) (.nil)) rfl rfl
theorem c48 {β1 : Bool} {β2 : Bool} {β3 : Bool} (n : Nat) (a0 : R24) (a1 : (List Int)) {r : Bool} (h : m48 n a0 a1 = some r) : Spec Try.prog 48 [] [.agg [.rd β1 a0.Points.length (a0.Points.flatMap encR45),.rd β2 a0.Before.length (a0.Before.flatMap encR93)],.rd β3 a1.length (a1.flatMap (encI .i64))] [] (.sc (.bool r)) [] := by
  refine Spec.of (fn := Try.f48) Try.func48 Try.ntmps48 rfl rfl (le1 rfl) (fun w0 Zs Zb T0 ι0 => ?_)
  unfold m48 at h
  refine AWP.seq ?_
  refine AWP.region (.cons (.box (t := 1) (n := 2) (lt1 rfl) (nm rfl) (.tmp rfl) (by first | exact ⟨rfl,rfl⟩ | rfl) rfl)<| .cons (.assign (lt1 rfl) (.const _ _ _))<| ARun.nil _ _ _) ?_
  refine AWP.vc (s' := ⟨[(1,.rd β3 a1.length (a1.flatMap (encI .i64))),(2,.ptr 1 0)],[(1,⟨32,false,[.rd β1 a0.Points.length (a0.Points.flatMap encR45),.rd β2 a0.Before.length (a0.Before.flatMap encR93)]⟩)]⟩) (VC.sub (.c rfl<| .c rfl<| .n _) (.c rfl<| .n _)) ?_
  refine AWP.seq ?_
  obtain ⟨y_1,hy_1,h⟩ := bindS h
  refine AWP.region (.cons (.move (lt1 rfl) (.tmp rfl))<| .cons (.lenRd (lt1 rfl) (.tmp rfl) Try.underlying28)<| .cons (.fieldP (lt1 rfl) (.tmp rfl) fld32_0)<| .cons (.loadP (lt1 rfl) (.tmp rfl) one22 rfl rfl rfl)<| .cons (.lenRd (lt1 rfl) (.tmp rfl) Try.underlying22)<| .cons (.eql (lt1 rfl) (.tmp rfl) (.tmp rfl))<| .cons (.move (lt1 rfl) (.tmp rfl))<| .guard (j := 6) (dj := 11) rfl (lt1 rfl) rfl (lt1 rfl) (fun hg => .move (lt1 rfl) (.tmp rfl))<| .guard (j := 6) (dj := 11) rfl (lt1 rfl) rfl (lt1 rfl) (fun hg => .call0 (bw := false) (lt1 rfl) (c80 (β1 := β3) n a1 (gdB hy_1 hg)) (.cons (.gd hg (.tmp rfl)) (.ren rfl) (.cons (.func _ _ _) (.ren rfl) (.nil))) rfl)<| .guard (j := 6) (dj := 11) rfl (lt1 rfl) rfl (lt1 rfl) (fun hg => .not (lt1 rfl) (.gd hg (.tmp rfl)))<| .cons (.pickAnd (lt1 rfl) (.tmp rfl) (.tmp rfl) (.const _ _ _))<| .cons (.assign (lt1 rfl) (.tmp rfl))<| ARun.nil _ _ _) ?_
  refine AWP.ret ?_
  obtain rfl := Option.some.inj h
  refine retJ (Res.vc (s' := ⟨[(4,.sc (.bool ((decide ((a1.length : Int) = (a0.Points.length : Int))) && (!y_1))))],[]⟩) (VC.sub (.c rfl<| .n _) (.n _)) ?_)
  refine Res.drop (H := []) rfl ?_
  exact Res.of rfl (.cons (.tmp rfl) (.nil)) rfl rfl
theorem c117 (n : Nat) (a0 : Int) (a1 : Int) {r : (Int × Int)} (h : m117 n a0 a1 = some r) : Spec Try.prog 117 [] [.sc (.int .u64 a0),.sc (.int .u64 a1)] [] (.tup [.sc (.int .u64 r.1),.sc (.int .u64 r.2)]) [] := by
  refine Spec.of (fn := Try.f117) Try.func117 Try.ntmps117 rfl rfl (le1 rfl) (fun w0 Zs Zb T0 ι0 => ?_)
  unfold m117 at h
  refine AWP.seq ?_
  refine AWP.region (.cons (.assign (lt1 rfl) (.const _ _ _))<| .cons (.assign (lt1 rfl) (.const _ _ _))<| ARun.nil _ _ _) ?_
  refine AWP.vc (s' := ⟨[(0,.sc (.int .u64 a0)),(1,.sc (.int .u64 a1))],[]⟩) (VC.sub (.c rfl<| .c rfl<| .n _) (.n _)) ?_
  refine AWP.seq ?_
  obtain ⟨t6_1,ht6_1,h⟩ := letS h
  refine AWP.region (.cons (.move (lt1 rfl) (.tmp rfl))<| .cons (.band (lt1 rfl) (.tmp rfl) (.const _ _ _))<| .cons (.assign (lt1 rfl) (.tmp rfl))<| ARun.nil _ _ _) ?_
  refine AWP.vc (s' := ⟨[(0,.sc (.int .u64 a0)),(1,.sc (.int .u64 a1)),(6,.sc (.int .u64 t6_1))],[]⟩) (by subst ht6_1; exact VC.sub (.c rfl<| .c rfl<| .c rfl<| .n _) (.n _)) ?_
  refine AWP.seq ?_
  refine AWP.region (.cons (.move (lt1 rfl) (.tmp rfl))<| .cons (.shr (lt1 rfl) (.tmp rfl) (.const _ _ _) (by decide))<| .cons (.assign (lt1 rfl) (.tmp rfl))<| ARun.nil _ _ _) ?_
  refine AWP.vc (s' := ⟨[(0,.sc (.int .u64 a0)),(1,.sc (.int .u64 a1)),(6,.sc (.int .u64 t6_1)),(7,.sc (.int .u64 (shrI .u64 a0 (32 : Int))))],[]⟩) (VC.sub (.c rfl<| .c rfl<| .c rfl<| .c rfl<| .n _) (.n _)) ?_
  refine AWP.seq ?_
  obtain ⟨t8_2,ht8_2,h⟩ := letS h
  refine AWP.region (.cons (.move (lt1 rfl) (.tmp rfl))<| .cons (.band (lt1 rfl) (.tmp rfl) (.const _ _ _))<| .cons (.assign (lt1 rfl) (.tmp rfl))<| ARun.nil _ _ _) ?_
  refine AWP.vc (s' := ⟨[(0,.sc (.int .u64 a0)),(1,.sc (.int .u64 a1)),(6,.sc (.int .u64 t6_1)),(7,.sc (.int .u64 (shrI .u64 a0 (32 : Int)))),(8,.sc (.int .u64 t8_2))],[]⟩) (by subst ht8_2; exact VC.sub (.c rfl<| .c rfl<| .c rfl<| .c rfl<| .c rfl<| .n _) (.n _)) ?_
  refine AWP.seq ?_
  refine AWP.region (.cons (.move (lt1 rfl) (.tmp rfl))<| .cons (.shr (lt1 rfl) (.tmp rfl) (.const _ _ _) (by decide))<| .cons (.assign (lt1 rfl) (.tmp rfl))<| ARun.nil _ _ _) ?_
  refine AWP.vc (s' := ⟨[(0,.sc (.int .u64 a0)),(1,.sc (.int .u64 a1)),(6,.sc (.int .u64 t6_1)),(7,.sc (.int .u64 (shrI .u64 a0 (32 : Int)))),(8,.sc (.int .u64 t8_2)),(9,.sc (.int .u64 (shrI .u64 a1 (32 : Int))))],[]⟩) (VC.sub (.c rfl<| .c rfl<| .c rfl<| .c rfl<| .c rfl<| .c rfl<| .n _) (.n _)) ?_
  refine AWP.seq ?_
  obtain ⟨t10_3,ht10_3,h⟩ := letS h
  refine AWP.region (.cons (.move (lt1 rfl) (.tmp rfl))<| .cons (.move (lt1 rfl) (.tmp rfl))<| .cons (.mul (lt1 rfl) (.tmp rfl) (.tmp rfl))<| .cons (.assign (lt1 rfl) (.tmp rfl))<| ARun.nil _ _ _) ?_
  refine AWP.vc (s' := ⟨[(0,.sc (.int .u64 a0)),(1,.sc (.int .u64 a1)),(6,.sc (.int .u64 t6_1)),(7,.sc (.int .u64 (shrI .u64 a0 (32 : Int)))),(8,.sc (.int .u64 t8_2)),(9,.sc (.int .u64 (shrI .u64 a1 (32 : Int)))),(10,.sc (.int .u64 t10_3))],[]⟩) (by subst ht10_3; exact VC.sub (.c rfl<| .c rfl<| .c rfl<| .c rfl<| .c rfl<| .c rfl<| .c rfl<| .n _) (.n _)) ?_
  refine AWP.seq ?_
  obtain ⟨t11_4,ht11_4,h⟩ := letS h
  refine AWP.region (.cons (.move (lt1 rfl) (.tmp rfl))<| .cons (.move (lt1 rfl) (.tmp rfl))<| .cons (.mul (lt1 rfl) (.tmp rfl) (.tmp rfl))<| .cons (.move (lt1 rfl) (.tmp rfl))<| .cons (.shr (lt1 rfl) (.tmp rfl) (.const _ _ _) (by decide))<| .cons (.add (lt1 rfl) (.tmp rfl) (.tmp rfl))<| .cons (.assign (lt1 rfl) (.tmp rfl))<| ARun.nil _ _ _) ?_
  refine AWP.vc (s' := ⟨[(0,.sc (.int .u64 a0)),(1,.sc (.int .u64 a1)),(6,.sc (.int .u64 t6_1)),(7,.sc (.int .u64 (shrI .u64 a0 (32 : Int)))),(9,.sc (.int .u64 (shrI .u64 a1 (32 : Int)))),(11,.sc (.int .u64 t11_4))],[]⟩) (by subst ht11_4; exact VC.sub (.c rfl<| .c rfl<| .c rfl<| .c rfl<| .c rfl<| .c rfl<| .n _) (.n _)) ?_
  refine AWP.seq ?_
  obtain ⟨t12_5,ht12_5,h⟩ := letS h
  refine AWP.region (.cons (.move (lt1 rfl) (.tmp rfl))<| .cons (.band (lt1 rfl) (.tmp rfl) (.const _ _ _))<| .cons (.assign (lt1 rfl) (.tmp rfl))<| ARun.nil _ _ _) ?_
  refine AWP.vc (s' := ⟨[(0,.sc (.int .u64 a0)),(1,.sc (.int .u64 a1)),(6,.sc (.int .u64 t6_1)),(7,.sc (.int .u64 (shrI .u64 a0 (32 : Int)))),(9,.sc (.int .u64 (shrI .u64 a1 (32 : Int)))),(11,.sc (.int .u64 t11_4)),(12,.sc (.int .u64 t12_5))],[]⟩) (by subst ht12_5; exact VC.sub (.c rfl<| .c rfl<| .c rfl<| .c rfl<| .c rfl<| .c rfl<| .c rfl<| .n _) (.n _)) ?_
  refine AWP.seq ?_
  refine AWP.region (.cons (.move (lt1 rfl) (.tmp rfl))<| .cons (.shr (lt1 rfl) (.tmp rfl) (.const _ _ _) (by decide))<| .cons (.assign (lt1 rfl) (.tmp rfl))<| ARun.nil _ _ _) ?_
  refine AWP.vc (s' := ⟨[(0,.sc (.int .u64 a0)),(1,.sc (.int .u64 a1)),(6,.sc (.int .u64 t6_1)),(7,.sc (.int .u64 (shrI .u64 a0 (32 : Int)))),(9,.sc (.int .u64 (shrI .u64 a1 (32 : Int)))),(12,.sc (.int .u64 t12_5)),(13,.sc (.int .u64 (shrI .u64 t11_4 (32 : Int))))],[]⟩) (VC.sub (.c rfl<| .c rfl<| .c rfl<| .c rfl<| .c rfl<| .c rfl<| .c rfl<| .n _) (.n _)) ?_
  refine AWP.seq ?_
  obtain ⟨t12_6,ht12_6,h⟩ := letS h
  refine AWP.region (.cons (.move (lt1 rfl) (.tmp rfl))<| .cons (.move (lt1 rfl) (.tmp rfl))<| .cons (.move (lt1 rfl) (.tmp rfl))<| .cons (.mul (lt1 rfl) (.tmp rfl) (.tmp rfl))<| .cons (.add (lt1 rfl) (.tmp rfl) (.tmp rfl))<| .cons (.assign (lt1 rfl) (.tmp rfl))<| ARun.nil _ _ _) ?_
  refine AWP.vc (s' := ⟨[(0,.sc (.int .u64 a0)),(1,.sc (.int .u64 a1)),(7,.sc (.int .u64 (shrI .u64 a0 (32 : Int)))),(9,.sc (.int .u64 (shrI .u64 a1 (32 : Int)))),(12,.sc (.int .u64 t12_6)),(13,.sc (.int .u64 (shrI .u64 t11_4 (32 : Int))))],[]⟩) (by subst ht12_6; exact VC.sub (.c rfl<| .c rfl<| .c rfl<| .c rfl<| .c rfl<| .c rfl<| .n _) (.n _)) ?_
  refine AWP.seq ?_
  obtain ⟨t4_7,ht4_7,h⟩ := letS h
  refine AWP.region (.cons (.move (lt1 rfl) (.tmp rfl))<| .cons (.move (lt1 rfl) (.tmp rfl))<| .cons (.mul (lt1 rfl) (.tmp rfl) (.tmp rfl))<| .cons (.move (lt1 rfl) (.tmp rfl))<| .cons (.add (lt1 rfl) (.tmp rfl) (.tmp rfl))<| .cons (.move (lt1 rfl) (.tmp rfl))<| .cons (.shr (lt1 rfl) (.tmp rfl) (.const _ _ _) (by decide))<| .cons (.add (lt1 rfl) (.tmp rfl) (.tmp rfl))<| .cons (.assign (lt1 rfl) (.tmp rfl))<| ARun.nil _ _ _) ?_
  refine AWP.vc (s' := ⟨[(0,.sc (.int .u64 a0)),(1,.sc (.int .u64 a1)),(4,.sc (.int .u64 t4_7))],[]⟩) (by subst ht4_7; exact VC.sub (.c rfl<| .c rfl<| .c rfl<| .n _) (.n _)) ?_
  refine AWP.seq ?_
  obtain ⟨t5_8,ht5_8,h⟩ := letS h
  refine AWP.region (.cons (.move (lt1 rfl) (.tmp rfl))<| .cons (.move (lt1 rfl) (.tmp rfl))<| .cons (.mul (lt1 rfl) (.tmp rfl) (.tmp rfl))<| .cons (.assign (lt1 rfl) (.tmp rfl))<| ARun.nil _ _ _) ?_
  refine AWP.ret ?_
  obtain rfl := Option.some.inj h
  refine retJ (Res.vc (s' := ⟨[(4,.sc (.int .u64 t4_7)),(5,.sc (.int .u64 t5_8))],[]⟩) (by subst ht5_8; exact VC.sub (.c rfl<| .c rfl<| .n _) (.n _)) ?_)
  refine Res.drop (H := []) rfl ?_
  exact Res.of rfl (.cons (.tmp rfl) (.cons (.tmp rfl) (.nil))) rfl rfl
theorem c110 (n : Nat) (a0 : Int) (a1 : Int) {r : (Int × Int)} (h : m110 n a0 a1 = some r) : Spec Try.prog 110 [] [.sc (.int .u64 a0),.sc (.int .u64 a1)] [] (.tup [.sc (.int .u64 r.1),.sc (.int .u64 r.2)]) [] := by
  refine Spec.of (fn := Try.f110) Try.func110 Try.ntmps110 rfl rfl (le1 rfl) (fun w0 Zs Zb T0 ι0 => ?_)
  unfold m110 at h
  refine AWP.seq ?_
  refine AWP.region (.cons (.assign (lt1 rfl) (.const _ _ _))<| .cons (.assign (lt1 rfl) (.const _ _ _))<| ARun.nil _ _ _) ?_
  refine AWP.vc (s' := ⟨[(0,.sc (.int .u64 a0)),(1,.sc (.int .u64 a1))],[]⟩) (VC.sub (.c rfl<| .c rfl<| .n _) (.n _)) ?_
  refine AWP.seq ?_
  refine AWP.cond (.const _ _ _) (fun hc => by cases hc) (fun _ => ?_)
  refine AWP.skip ?_
  refine AWP.seq ?_
  obtain ⟨y_1,hy_1,h⟩ := bindS h
  refine AWP.region (.cons (.move (lt1 rfl) (.tmp rfl))<| .cons (.move (lt1 rfl) (.tmp rfl))<| .cons (.call0 (bw := false) (lt1 rfl) (c117 n a0 a1 hy_1) (.cons (.tmp rfl) (.ren rfl) (.cons (.tmp rfl) (.ren rfl) (.nil))) rfl)<| .cons (.move (lt1 rfl) (.tmp rfl))<| .cons (.extract (lt1 rfl) (.tmp rfl) rfl)<| .cons (.extract (lt1 rfl) (.tmp rfl) rfl)<| .cons (.assign (lt1 rfl) (.tmp rfl))<| .cons (.assign (lt1 rfl) (.tmp rfl))<| ARun.nil _ _ _) ?_
  refine AWP.vc (s' := ⟨[(8,.sc (.int .u64 y_1.1)),(9,.sc (.int .u64 y_1.2))],[]⟩) (VC.sub (.c rfl<| .c rfl<| .n _) (.n _)) ?_
  refine AWP.seq ?_
  refine AWP.region (.cons (.move (lt1 rfl) (.tmp rfl))<| .cons (.move (lt1 rfl) (.tmp rfl))<| .cons (.assign (lt1 rfl) (.tmp rfl))<| .cons (.assign (lt1 rfl) (.tmp rfl))<| ARun.nil _ _ _) ?_
  refine AWP.ret ?_
  obtain rfl := Option.some.inj h
  refine retJ (Res.vc (s' := ⟨[(4,.sc (.int .u64 y_1.1)),(5,.sc (.int .u64 y_1.2))],[]⟩) (VC.sub (.c rfl<| .c rfl<| .n _) (.n _)) ?_)
  refine Res.drop (H := []) rfl ?_
  exact Res.of rfl (.cons (.tmp rfl) (.cons (.tmp rfl) (.nil))) rfl rfl
theorem c102o {β1 : Bool} (n : Nat) (a0 : (List Int)) (a1 : Int) {r : (List Int)} (h : m102o n a0 a1 = some r) : Spec Try.prog 102 [] [.rd β1 a0.length (a0.flatMap (encI .i64)),.sc (.int .i64 a1)] [] (.own 1 1 0 r.length) [(1,⟨3,true,r.flatMap (encI .i64)⟩)] := by
  refine Spec.of (fn := Try.f102) Try.func102 Try.ntmps102 rfl rfl (le1 rfl) (fun w0 Zs Zb T0 ι0 => ?_)
  unfold m102o at h
  refine AWP.seq ?_
  refine AWP.region (.cons (.assign (lt1 rfl) (.const _ _ _))<| ARun.nil _ _ _) ?_
  refine AWP.vc (s' := ⟨[(0,.rd β1 a0.length (a0.flatMap (encI .i64))),(1,.sc (.int .i64 a1))],[]⟩) (VC.sub (.c rfl<| .c rfl<| .n _) (.n _)) ?_
  refine AWP.seq ?_
  refine AWP.seq ?_
  refine AWP.region (.cons (.move (lt1 rfl) (.tmp rfl))<| .cons (.lss (lt1 rfl) (.tmp rfl) (.const _ _ _))<| ARun.nil _ _ _) ?_
  refine AWP.vc (s' := ⟨[(0,.rd β1 a0.length (a0.flatMap (encI .i64))),(1,.sc (.int .i64 a1)),(10,.sc (.bool (decide (a1 < (0 : Int)))))],[]⟩) (VC.sub (.c rfl<| .c rfl<| .c rfl<| .n _) (.n _)) ?_
  refine AWP.cond (.tmp rfl) (fun hc => ?_) (fun hc => ?_)
  · have h := iteT hc h
    cases h
  · have h := iteF hc h
    refine AWP.skip ?_
    refine AWP.seq ?_
    obtain ⟨y_1,hy_1,h⟩ := bindS h
    refine AWP.region (.cons (.move (lt1 rfl) (.tmp rfl))<| .cons (.lenRd (lt1 rfl) (.tmp rfl) Try.underlying28)<| .cons (.conv (lt1 rfl) (.tmp rfl) Try.underlying3 Try.underlying142)<| .cons (.move (lt1 rfl) (.tmp rfl))<| .cons (.conv (lt1 rfl) (.tmp rfl) Try.underlying3 Try.underlying142)<| .cons (.call0 (bw := false) (lt1 rfl) (c110 n (IntKind.wrap .u64 (a0.length : Int)) (IntKind.wrap .u64 a1) hy_1) (.cons (.tmp rfl) (.ren rfl) (.cons (.tmp rfl) (.ren rfl) (.nil))) rfl)<| .cons (.move (lt1 rfl) (.tmp rfl))<| .cons (.extract (lt1 rfl) (.tmp rfl) rfl)<| .cons (.extract (lt1 rfl) (.tmp rfl) rfl)<| .cons (.assign (lt1 rfl) (.tmp rfl))<| .cons (.assign (lt1 rfl) (.tmp rfl))<| ARun.nil _ _ _) ?_
    refine AWP.vc (s' := ⟨[(0,.rd β1 a0.length (a0.flatMap (encI .i64))),(5,.sc (.int .u64 y_1.1)),(6,.sc (.int .u64 y_1.2))],[]⟩) (VC.sub (.c rfl<| .c rfl<| .c rfl<| .n _) (.n _)) ?_
    refine AWP.seq ?_
    refine AWP.seq ?_
    refine AWP.region (.cons (.move (lt1 rfl) (.tmp rfl))<| .cons (.gtr (lt1 rfl) (.tmp rfl) (.const _ _ _))<| .cons (.move (lt1 rfl) (.tmp rfl))<| .guard (j := 2) (dj := 23) rfl (lt1 rfl) rfl (lt1 rfl) (fun hg => .move (lt1 rfl) (.tmp rfl))<| .guard (j := 2) (dj := 23) rfl (lt1 rfl) rfl (lt1 rfl) (fun hg => .gtr (lt1 rfl) (.gd hg (.tmp rfl)) (.const _ _ _))<| .cons (.pickOr (lt1 rfl) (.tmp rfl) (.const _ _ _) (.tmp rfl))<| ARun.nil _ _ _) ?_
    refine AWP.vc (s' := ⟨[(0,.rd β1 a0.length (a0.flatMap (encI .i64))),(6,.sc (.int .u64 y_1.2)),(26,.sc (.bool ((decide ((0 : Int) < y_1.1)) || (decide ((9223372036854775807 : Int) < y_1.2)))))],[]⟩) (VC.sub (.c rfl<| .c rfl<| .c rfl<| .n _) (.n _)) ?_
    refine AWP.cond (.tmp rfl) (fun hc => ?_) (fun hc => ?_)
    · have h := iteT hc h
      cases h
    · have h := iteF hc h
      refine AWP.skip ?_
      refine AWP.seq ?_
      obtain ⟨l1_2,hl1_2,h⟩ := bindS h
      refine AWP.region (.cons (.move (lt1 rfl) (.tmp rfl))<| .cons (.conv (lt1 rfl) (.tmp rfl) Try.underlying142 Try.underlying3)<| .cons (.mkS (enc := (encI .i64)) (t := 1) (lt1 rfl) (nm rfl) (.tmp rfl) (.tmp rfl) Try.underlying28 zero3 el3 rfl (encI_len .i64) (by decide) hl1_2)<| .cons (.assign (lt1 rfl) (.tmp rfl))<| ARun.nil _ _ _) ?_
      refine AWP.vc (s' := ⟨[(0,.rd β1 a0.length (a0.flatMap (encI .i64))),(7,.own 1 1 0 l1_2.length)],[(1,⟨3,true,l1_2.flatMap (encI .i64)⟩)]⟩) (VC.sub (.c rfl<| .c rfl<| .n _) (.c rfl<| .n _)) ?_
      refine AWP.seq ?_
      obtain ⟨l1_3,hl1_3,h⟩ := bindS h
      obtain ⟨t8_4,ht8_4,h⟩ := letS h
      refine AWP.region (.cons (.move (lt1 rfl) (.tmp rfl))<| .cons (.move (lt1 rfl) (.tmp rfl))<| .cons (.cpyR (enc := (encI .i64)) (lt1 rfl) (.tmp rfl) (SrcP.rd (.tmp rfl) (.inr (scal_all (encI_scal .i64) _))) Try.underlying28 sz3 rfl (encI_len .i64) (encI_one .i64) rfl hl1_3)<| .cons (.assign (lt1 rfl) (.tmp rfl))<| ARun.nil _ _ _) ?_
      refine AWP.vc (s' := ⟨[(7,.own 1 1 0 l1_3.length),(8,.sc (.int .i64 t8_4))],[(1,⟨3,true,l1_3.flatMap (encI .i64)⟩)]⟩) (by subst ht8_4; exact VC.sub (.c (lenC (Eq.symm (Eq.symm (cpyL hl1_3))) rfl)<| .c rfl<| .n _) (.c rfl<| .n _)) ?_
      refine AWP.seq ?_
      refine AWP.joinB' (S := fun p_21 : (List Int) => ⟨[(7,.own 1 1 0 p_21.length)],[(1,⟨3,true,p_21.flatMap (encI .i64)⟩)]⟩) h (fun p_21 h => ?_) (fun k_22 h => ?_)
      · refine AWP.seq ?_
        refine AWP.region (.cons (.move (lt1 rfl) (.tmp rfl))<| .cons (.assign (lt1 rfl) (.tmp rfl))<| ARun.nil _ _ _) ?_
        refine AWP.ret ?_
        obtain rfl := Option.some.inj h
        refine retJ (Res.vc (s' := ⟨[(4,.own 1 1 0 p_21.length)],[(1,⟨3,true,p_21.flatMap (encI .i64)⟩)]⟩) (VC.sub (.c rfl<| .n _) (.c rfl<| .n _)) ?_)
        refine Res.sub (H := [(1,⟨3,true,p_21.flatMap (encI .i64)⟩)]) (.c rfl<| .n _) ?_
        exact Res.of rfl (.cons (.tmp rfl) (.nil)) rfl rfl
      · refine AWP.vc (s' := ⟨[(7,.own 1 1 0 l1_3.length),(8,.sc (.int .i64 t8_4))],[(1,⟨3,true,l1_3.flatMap (encI .i64)⟩)]⟩) (VC.sub (.c rfl<| .c rfl<| .n _) (.c rfl<| .n _)) ?_
        refine AWP.loopM (S := fun x_15 : Int × (List Int) => ⟨[(7,.own 1 1 0 x_15.2.length),(8,.sc (.int .i64 x_15.1))],[(1,⟨3,true,x_15.2.flatMap (encI .i64)⟩)]⟩) (x := (t8_4,l1_3)) (fun nx_16 x_15 h => ?_) h
        unfold m102o_L1 at h
        refine AWP.seq ?_
        refine AWP.seq ?_
        refine AWP.region (.cons (.move (lt1 rfl) (.tmp rfl))<| .cons (.move (lt1 rfl) (.tmp rfl))<| .cons (.lenOwn (lt1 rfl) (.tmp rfl) Try.underlying28)<| .cons (.lss (lt1 rfl) (.tmp rfl) (.tmp rfl))<| ARun.nil _ _ _) ?_
        refine AWP.vc (s' := ⟨[(7,.own 1 1 0 x_15.2.length),(8,.sc (.int .i64 x_15.1)),(37,.sc (.bool (decide (x_15.1 < (x_15.2.length : Int)))))],[(1,⟨3,true,x_15.2.flatMap (encI .i64)⟩)]⟩) (VC.sub (.c rfl<| .c rfl<| .c rfl<| .n _) (.c rfl<| .n _)) ?_
        refine AWP.cond (.tmp rfl) (fun hc => ?_) (fun hc => ?_)
        · have h := iteT hc h
          refine AWP.skip ?_
          refine AWP.block ?_
          obtain ⟨s_17,hs_17,h⟩ := bindS h
          obtain ⟨s_18,hs_18,h⟩ := bindS h
          obtain ⟨l1_19,hl1_19,h⟩ := bindS h
          obtain ⟨t8_20,ht8_20,h⟩ := letS h
          refine AWP.draw (s' := ⟨[(7,.own 1 1 0 x_15.2.length),(8,.sc (.int .i64 (IntKind.wrap .i64 (x_15.1 + ((min s_18.length (x_15.2.length - (x_15.1).toNat) : Nat) : Int)))))],[(1,⟨3,true,l1_19.flatMap (encI .i64)⟩)]⟩) mixed [⟨7,.own 1 1 0 x_15.2.length,none,[]⟩,⟨8,.sc (.int .i64 x_15.1),none,[9]⟩,⟨37,.sc (.bool (decide (x_15.1 < (x_15.2.length : Int)))),none,[]⟩,⟨38,.sc (.int .i64 x_15.1),some 0,[]⟩,⟨39,.own 1 1 0 x_15.2.length,some 1,[]⟩,⟨40,.sc (.int .i64 x_15.1),some 2,[]⟩,⟨41,.own 1 1 (0 + (x_15.1).toNat * 1) (x_15.2.length - (x_15.1).toNat),some 3,[]⟩,⟨42,.own 1 1 0 x_15.2.length,some 4,[]⟩,⟨43,.sc (.int .i64 x_15.1),some 5,[]⟩,⟨44,.own 1 1 0 s_18.length,some 6,[]⟩,⟨45,.sc (.int .i64 ((min s_18.length (x_15.2.length - (x_15.1).toNat) : Nat) : Int)),some 7,[]⟩,⟨46,.sc (.int .i64 (IntKind.wrap .i64 (x_15.1 + ((min s_18.length (x_15.2.length - (x_15.1).toNat) : Nat) : Int)))),some 8,[]⟩,⟨8,.sc (.int .i64 (IntKind.wrap .i64 (x_15.1 + ((min s_18.length (x_15.2.length - (x_15.1).toNat) : Nat) : Int)))),some 9,[]⟩] [⟨[1],0,1,some (38,.sc (.int .i64 x_15.1)),[]⟩,⟨[0],0,0,some (39,.own 1 1 0 x_15.2.length),[]⟩,⟨[1],0,1,some (40,.sc (.int .i64 x_15.1)),[]⟩,⟨[4,5],0,0,some (41,.own 1 1 (0 + (x_15.1).toNat * 1) (x_15.2.length - (x_15.1).toNat)),[]⟩,⟨[0],0,0,some (42,.own 1 1 0 x_15.2.length),[]⟩,⟨[1],0,1,some (43,.sc (.int .i64 x_15.1)),[]⟩,⟨[7,8],0,0,some (44,.own 1 1 0 s_18.length),[]⟩,⟨[6,9],0,0,some (45,.sc (.int .i64 ((min s_18.length (x_15.2.length - (x_15.1).toNat) : Nat) : Int))),[]⟩,⟨[3,10],0,1,some (46,.sc (.int .i64 (IntKind.wrap .i64 (x_15.1 + ((min s_18.length (x_15.2.length - (x_15.1).toNat) : Nat) : Int))))),[]⟩,⟨[11],0,1,some (8,.sc (.int .i64 (IntKind.wrap .i64 (x_15.1 + ((min s_18.length (x_15.2.length - (x_15.1).toNat) : Nat) : Int))))),[]⟩] [7] [[(1,⟨3,true,x_15.2.flatMap (encI .i64)⟩)],[(1,⟨3,true,l1_19.flatMap (encI .i64)⟩)]] [[],[],[],[1,2],[],[],[4,5],[1,2,3,4,5,6],[0,1,2,3,4,5,6,7],[0,1,2,3,4,5,6,7,8]] (by kernel_rfl) (by kernel_rfl) (BornL.ok (.o<| .o<| .o<| .b rfl rfl<| .b rfl rfl<| .b rfl rfl<| .b rfl rfl<| .b rfl rfl<| .b rfl rfl<| .b rfl rfl<| .b rfl rfl<| .b rfl rfl<| .b rfl rfl<| .n)) (BaseL.ok (.o rfl<| .o rfl<| .o rfl<| .b<| .b<| .b<| .b<| .b<| .b<| .b<| .b<| .b<| .b<| .n)) rfl (by decide) (allLt rfl) (.pure rfl (fun H => .put (fun E hE => .move (lt1 rfl) (.tmp (hE.at (k := 0) rfl))))<| .read rfl (.c (.put (fun E hE => .move (lt1 rfl) (.tmp (hE.at (k := 0) rfl)))) (.n))<| .pure rfl (fun H => .put (fun E hE => .move (lt1 rfl) (.tmp (hE.at (k := 0) rfl))))<| .read rfl (.c (.put (fun E hE => .slPart (lt1 rfl) (.tmp (hE.at (k := 0) rfl)) Try.underlying28 sz3 rfl (.some (.tmp (hE.at (k := 1) rfl))) hs_17)) (.n))<| .read rfl (.c (.put (fun E hE => .move (lt1 rfl) (.tmp (hE.at (k := 0) rfl)))) (.n))<| .pure rfl (fun H => .put (fun E hE => .move (lt1 rfl) (.tmp (hE.at (k := 0) rfl))))<| .read rfl (.c (.put (fun E hE => .slHead (lt1 rfl) (.tmp (hE.at (k := 0) rfl)) Try.underlying28 sz3 rfl (.some (.tmp (hE.at (k := 1) rfl))) hs_18)) (.n))<| .turn rfl rfl rfl rfl rfl (.turnput (fun E hE => .cpyR (enc := (encI .i64)) (lt1 rfl) (.tmp (hE.at (k := 0) rfl)) (SrcP.ownR (enc := (encI .i64)) (.tmp (hE.at (k := 1) rfl)) rfl (encI_len .i64) (slcP hs_18) (slcQ hs_18)) Try.underlying28 sz3 rfl (encI_len .i64) (encI_one .i64) rfl hl1_19) rfl)<| .pure rfl (fun H => .put (fun E hE => .add (lt1 rfl) (.tmp (hE.at (k := 0) rfl)) (.tmp (hE.at (k := 1) rfl))))<| .pure rfl (fun H => .put (fun E hE => .assign (lt1 rfl) (.tmp (hE.at (k := 0) rfl))))<| .nil _) (fun E hE => .c (DInv.at hE (k := 0) rfl rfl rfl)<| .c (DInv.at hE (k := 12) rfl rfl rfl)<| .n _) rfl ?_
          exact endJ (t8_20,l1_19) h (by subst ht8_20; exact VC.sub (.c (lenC (Eq.symm (Eq.symm (cpyL hl1_19))) rfl)<| .c rfl<| .n _) (.c rfl<| .n _))
        · have h := iteF hc h
          refine AWP.exit ?_
          exact endJ x_15.2 h (VC.sub (.c rfl<| .n _) (.c rfl<| .n _))
theorem c85 {β1 : Bool} {β2 : Bool} {β3 : Bool} (n : Nat) (a0 : R24) (a1 : Int) (a2 : Int) (a3 : (List Int)) {r : Int} (h : m85 n a0 a1 a2 a3 = some r) : Spec Try.prog 85 [] [.agg [.rd β1 a0.Points.length (a0.Points.flatMap encR45),.rd β2 a0.Before.length (a0.Before.flatMap encR93)],.sc (.int .i64 a1),.sc (.int .i64 a2),.rd β3 a3.length (a3.flatMap (encI .i64))] [] (.sc (.int .i64 r)) [] := by
  refine Spec.of (fn := Try.f85) Try.func85 Try.ntmps85 rfl rfl (le1 rfl) (fun w0 Zs Zb T0 ι0 => ?_)
  unfold m85 at h
  refine AWP.seq ?_
  refine AWP.region (.cons (.box (t := 1) (n := 2) (lt1 rfl) (nm rfl) (.tmp rfl) (by first | exact ⟨rfl,rfl⟩ | rfl) rfl)<| .cons (.assign (lt1 rfl) (.const _ _ _))<| ARun.nil _ _ _) ?_
  refine AWP.vc (s' := ⟨[(1,.sc (.int .i64 a1)),(2,.sc (.int .i64 a2)),(3,.rd β3 a3.length (a3.flatMap (encI .i64))),(4,.ptr 1 0)],[(1,⟨32,false,[.rd β1 a0.Points.length (a0.Points.flatMap encR45),.rd β2 a0.Before.length (a0.Before.flatMap encR93)]⟩)]⟩) (VC.sub (.c rfl<| .c rfl<| .c rfl<| .c rfl<| .n _) (.c rfl<| .n _)) ?_
  refine AWP.seq ?_
  obtain ⟨y_1,hy_1,h⟩ := bindS h
  obtain ⟨y_2,hy_2,h⟩ := bindS h
  obtain ⟨y_3,hy_3,h⟩ := bindS h
  obtain ⟨t8_4,ht8_4,h⟩ := letS h
  refine AWP.draw (s' := ⟨[(8,.sc (.int .i64 (IntKind.wrap .i64 ((IntKind.wrap .i64 (y_1 + y_2)) + y_3))))],[(1,⟨32,false,[.rd β1 a0.Points.length (a0.Points.flatMap encR45),.rd β2 a0.Before.length (a0.Before.flatMap encR93)]⟩)]⟩) mixed [⟨1,.sc (.int .i64 a1),none,[]⟩,⟨2,.sc (.int .i64 a2),none,[]⟩,⟨3,.rd β3 a3.length (a3.flatMap (encI .i64)),none,[]⟩,⟨4,.ptr 1 0,none,[]⟩,⟨9,.agg [.rd β1 a0.Points.length (a0.Points.flatMap encR45),.rd β2 a0.Before.length (a0.Before.flatMap encR93)],some 0,[]⟩,⟨10,.sc (.int .i64 a1),some 1,[]⟩,⟨11,.sc (.int .i64 a2),some 2,[]⟩,⟨12,.sc (.int .i64 y_1),some 3,[]⟩,⟨13,.rd β3 a3.length (a3.flatMap (encI .i64)),some 4,[]⟩,⟨14,.sc (.int .i64 a1),some 5,[]⟩,⟨15,.rptr β3 [.sc (.int .i64 y_2)],some 6,[]⟩,⟨16,.sc (.int .i64 y_2),some 7,[]⟩,⟨17,.sc (.int .i64 (IntKind.wrap .i64 (y_1 + y_2))),some 8,[]⟩,⟨18,.rd β3 a3.length (a3.flatMap (encI .i64)),some 9,[]⟩,⟨19,.sc (.int .i64 a2),some 10,[]⟩,⟨20,.rptr β3 [.sc (.int .i64 y_3)],some 11,[]⟩,⟨21,.sc (.int .i64 y_3),some 12,[]⟩,⟨22,.sc (.int .i64 (IntKind.wrap .i64 ((IntKind.wrap .i64 (y_1 + y_2)) + y_3))),some 13,[]⟩,⟨8,.sc (.int .i64 (IntKind.wrap .i64 ((IntKind.wrap .i64 (y_1 + y_2)) + y_3))),some 14,[]⟩] [⟨[3],0,0,some (9,.agg [.rd β1 a0.Points.length (a0.Points.flatMap encR45),.rd β2 a0.Before.length (a0.Before.flatMap encR93)]),[]⟩,⟨[0],0,0,some (10,.sc (.int .i64 a1)),[]⟩,⟨[1],0,0,some (11,.sc (.int .i64 a2)),[]⟩,⟨[4,5,6],0,0,some (12,.sc (.int .i64 y_1)),[]⟩,⟨[2],0,0,some (13,.rd β3 a3.length (a3.flatMap (encI .i64))),[]⟩,⟨[0],0,0,some (14,.sc (.int .i64 a1)),[]⟩,⟨[8,9],0,0,some (15,.rptr β3 [.sc (.int .i64 y_2)]),[]⟩,⟨[10],0,0,some (16,.sc (.int .i64 y_2)),[]⟩,⟨[7,11],0,0,some (17,.sc (.int .i64 (IntKind.wrap .i64 (y_1 + y_2)))),[]⟩,⟨[2],0,0,some (18,.rd β3 a3.length (a3.flatMap (encI .i64))),[]⟩,⟨[1],0,0,some (19,.sc (.int .i64 a2)),[]⟩,⟨[13,14],0,0,some (20,.rptr β3 [.sc (.int .i64 y_3)]),[]⟩,⟨[15],0,0,some (21,.sc (.int .i64 y_3)),[]⟩,⟨[12,16],0,0,some (22,.sc (.int .i64 (IntKind.wrap .i64 ((IntKind.wrap .i64 (y_1 + y_2)) + y_3)))),[]⟩,⟨[17],0,0,some (8,.sc (.int .i64 (IntKind.wrap .i64 ((IntKind.wrap .i64 (y_1 + y_2)) + y_3)))),[]⟩] [] [[(1,⟨32,false,[.rd β1 a0.Points.length (a0.Points.flatMap encR45),.rd β2 a0.Before.length (a0.Before.flatMap encR93)]⟩)]] [[],[],[],[0,1,2],[],[],[4,5],[4,5,6],[0,1,2,3,4,5,6,7],[],[],[9,10],[9,10,11],[0,1,2,3,4,5,6,7,8,9,10,11,12],[0,1,2,3,4,5,6,7,8,9,10,11,12,13]] (by kernel_rfl) (by kernel_rfl) (BornL.ok (.o<| .o<| .o<| .o<| .b rfl rfl<| .b rfl rfl<| .b rfl rfl<| .b rfl rfl<| .b rfl rfl<| .b rfl rfl<| .b rfl rfl<| .b rfl rfl<| .b rfl rfl<| .b rfl rfl<| .b rfl rfl<| .b rfl rfl<| .b rfl rfl<| .b rfl rfl<| .b rfl rfl<| .n)) (BaseL.ok (.o rfl<| .o rfl<| .o rfl<| .o rfl<| .b<| .b<| .b<| .b<| .b<| .b<| .b<| .b<| .b<| .b<| .b<| .b<| .b<| .b<| .b<| .n)) rfl (by decide) (allLt rfl) (.read rfl (.c (.put (fun E hE => .loadPA (lt1 rfl) (.tmp (hE.at (k := 0) rfl)) agg32 rfl rfl rfl rfl)) .n)<| .pure rfl (fun H => .put (fun E hE => .move (lt1 rfl) (.tmp (hE.at (k := 0) rfl))))<| .pure rfl (fun H => .put (fun E hE => .move (lt1 rfl) (.tmp (hE.at (k := 0) rfl))))<| .pure rfl (fun H => .put (fun E hE => .call0 (bw := false) (lt1 rfl) (c79 (β1 := β1) (β2 := β2) n (R24.mk a0.Points a0.Before) a1 a2 hy_1) (.cons (.tmp (hE.at (k := 0) rfl)) (.ren rfl) (.cons (.tmp (hE.at (k := 1) rfl)) (.ren rfl) (.cons (.tmp (hE.at (k := 2) rfl)) (.ren rfl) (.nil)))) rfl))<| .pure rfl (fun H => .put (fun E hE => .move (lt1 rfl) (.tmp (hE.at (k := 0) rfl))))<| .pure rfl (fun H => .put (fun E hE => .move (lt1 rfl) (.tmp (hE.at (k := 0) rfl))))<| .pure rfl (fun H => .put (fun E hE => .indexRd (enc := (encI .i64)) (lt1 rfl) (.tmp (hE.at (k := 0) rfl)) (.tmp (hE.at (k := 1) rfl)) Try.underlying28 sz3 (encI_len .i64) rfl hy_2))<| .pure rfl (fun H => .put (fun E hE => .loadR (v := .sc (.int .i64 y_2)) (lt1 rfl) (.tmp (hE.at (k := 0) rfl)) one3 rfl))<| .pure rfl (fun H => .put (fun E hE => .add (lt1 rfl) (.tmp (hE.at (k := 0) rfl)) (.tmp (hE.at (k := 1) rfl))))<| .pure rfl (fun H => .put (fun E hE => .move (lt1 rfl) (.tmp (hE.at (k := 0) rfl))))<| .pure rfl (fun H => .put (fun E hE => .move (lt1 rfl) (.tmp (hE.at (k := 0) rfl))))<| .pure rfl (fun H => .put (fun E hE => .indexRd (enc := (encI .i64)) (lt1 rfl) (.tmp (hE.at (k := 0) rfl)) (.tmp (hE.at (k := 1) rfl)) Try.underlying28 sz3 (encI_len .i64) rfl hy_3))<| .pure rfl (fun H => .put (fun E hE => .loadR (v := .sc (.int .i64 y_3)) (lt1 rfl) (.tmp (hE.at (k := 0) rfl)) one3 rfl))<| .pure rfl (fun H => .put (fun E hE => .add (lt1 rfl) (.tmp (hE.at (k := 0) rfl)) (.tmp (hE.at (k := 1) rfl))))<| .pure rfl (fun H => .put (fun E hE => .assign (lt1 rfl) (.tmp (hE.at (k := 0) rfl))))<| .nil _) (fun E hE => .c (DInv.at hE (k := 18) rfl rfl rfl)<| .n _) rfl ?_
  refine AWP.ret ?_
  obtain rfl := Option.some.inj h
  refine retJ (Res.vc (s' := ⟨[(8,.sc (.int .i64 t8_4))],[]⟩) (by subst ht8_4; exact VC.sub (.c rfl<| .n _) (.n _)) ?_)
  refine Res.drop (H := []) rfl ?_
  exact Res.of rfl (.cons (.tmp rfl) (.nil)) rfl rfl
theorem c82 {β1 : Bool} {β2 : Bool} {β3 : Bool} {β4 : Bool} (n : Nat) (a0 : R24) (a1 : (List Int)) (a2 : (List Int)) (a3_b : (List Int)) {r : (Int × (List Int))} (h : m82 n a0 a1 a2 a3_b = some r) : Spec Try.prog 82 [1] [.agg [.rd β1 a0.Points.length (a0.Points.flatMap encR45),.rd β2 a0.Before.length (a0.Before.flatMap encR93)],.rd β3 a1.length (a1.flatMap (encI .i64)),.rd β4 a2.length (a2.flatMap (encI .i64)),.own 1 1 0 a3_b.length] [(1,⟨3,true,a3_b.flatMap (encI .i64)⟩)] (.sc (.int .i64 r.1)) [(1,⟨3,true,r.2.flatMap (encI .i64)⟩)] := by
  refine Spec.of (fn := Try.f82) Try.func82 Try.ntmps82 rfl rfl (le1 rfl) (fun w0 Zs Zb T0 ι0 => ?_)
  unfold m82 at h
  refine AWP.seq ?_
  refine AWP.region (.cons (.box (t := 2) (n := 2) (lt1 rfl) (nm rfl) (.tmp rfl) (by first | exact ⟨rfl,rfl⟩ | rfl) rfl)<| .cons (.assign (lt1 rfl) (.const _ _ _))<| ARun.nil _ _ _) ?_
  refine AWP.vc (s' := ⟨[(1,.rd β3 a1.length (a1.flatMap (encI .i64))),(2,.rd β4 a2.length (a2.flatMap (encI .i64))),(3,.own 1 1 0 a3_b.length),(4,.ptr 2 0)],[(2,⟨32,false,[.rd β1 a0.Points.length (a0.Points.flatMap encR45),.rd β2 a0.Before.length (a0.Before.flatMap encR93)]⟩),(1,⟨3,true,a3_b.flatMap (encI .i64)⟩)]⟩) (VC.sub (.c rfl<| .c rfl<| .c rfl<| .c rfl<| .n _) (.c rfl<| .c rfl<| .n _)) ?_
  refine AWP.seq ?_
  refine AWP.seq ?_
  refine AWP.region (.cons (.move (lt1 rfl) (.tmp rfl))<| .cons (.lenRd (lt1 rfl) (.tmp rfl) Try.underlying28)<| .cons (.eql (lt1 rfl) (.tmp rfl) (.const _ _ _))<| ARun.nil _ _ _) ?_
  refine AWP.vc (s' := ⟨[(1,.rd β3 a1.length (a1.flatMap (encI .i64))),(2,.rd β4 a2.length (a2.flatMap (encI .i64))),(3,.own 1 1 0 a3_b.length),(4,.ptr 2 0),(21,.sc (.bool (decide ((a1.length : Int) = (0 : Int)))))],[(2,⟨32,false,[.rd β1 a0.Points.length (a0.Points.flatMap encR45),.rd β2 a0.Before.length (a0.Before.flatMap encR93)]⟩),(1,⟨3,true,a3_b.flatMap (encI .i64)⟩)]⟩) (VC.sub (.c rfl<| .c rfl<| .c rfl<| .c rfl<| .c rfl<| .n _) (.c rfl<| .c rfl<| .n _)) ?_
  refine AWP.cond (.tmp rfl) (fun hc => ?_) (fun hc => ?_)
  · have h := iteT hc h
    refine AWP.seq ?_
    refine AWP.region (.cons (.assign (lt1 rfl) (.const _ _ _))<| ARun.nil _ _ _) ?_
    refine AWP.ret ?_
    obtain rfl := Option.some.inj h
    refine retJ (Res.vc (s' := ⟨[(8,.sc (.int .i64 (0 : Int)))],[(1,⟨3,true,a3_b.flatMap (encI .i64)⟩)]⟩) (VC.sub (.c rfl<| .n _) (.c rfl<| .n _)) ?_)
    refine Res.sub (H := [(1,⟨3,true,a3_b.flatMap (encI .i64)⟩)]) (.c rfl<| .n _) ?_
    exact Res.of rfl (.cons (.tmp rfl) (.nil)) rfl rfl
  · have h := iteF hc h
    refine AWP.skip ?_
    refine AWP.seq ?_
    obtain ⟨y_1,hy_1,h⟩ := bindS h
    obtain ⟨y_2,hy_2,h⟩ := bindS h
    refine AWP.region (.cons (.move (lt1 rfl) (.tmp rfl))<| .cons (.indexRd (enc := (encI .i64)) (lt1 rfl) (.tmp rfl) (.const _ _ _) Try.underlying28 sz3 (encI_len .i64) rfl hy_1)<| .cons (.loadR (v := .sc (.int .i64 y_1)) (lt1 rfl) (.tmp rfl) one3 rfl)<| .cons (.buildSlice (t := 3) (out := ([y_1] : List Int).flatMap (encI .i64)) (lt1 rfl) (nm rfl) (.cons (.tmp rfl) (by first | exact ⟨rfl,rfl⟩ | rfl) (.nil)) Try.underlying28 zero3 el3 (by decide) (by decide) rfl (still_all (encI_still .i64) _))<| .cons (.move (lt1 rfl) (.tmp rfl))<| .cons (.lenRd (lt1 rfl) (.tmp rfl) Try.underlying28)<| .cons (.call (σ := fun _ => 4) (bw := true) (lt1 rfl) (c102o (β1 := true) n ([y_1] : List Int) (a1.length : Int) hy_2) (.cons (.tmp rfl) (.lendRow rfl rfl (encI_len .i64) rfl) (.cons (.tmp rfl) (.ren rfl) (.nil))) (CallOk.mk' (.n) rfl))<| .cons (.assign (lt1 rfl) (.tmp rfl))<| ARun.nil _ _ _) ?_
    refine AWP.vc (s' := ⟨[(1,.rd β3 a1.length (a1.flatMap (encI .i64))),(2,.rd β4 a2.length (a2.flatMap (encI .i64))),(3,.own 1 1 0 a3_b.length),(4,.ptr 2 0),(9,.own 4 1 0 y_2.length)],[(4,⟨3,true,y_2.flatMap (encI .i64)⟩),(2,⟨32,false,[.rd β1 a0.Points.length (a0.Points.flatMap encR45),.rd β2 a0.Before.length (a0.Before.flatMap encR93)]⟩),(1,⟨3,true,a3_b.flatMap (encI .i64)⟩)]⟩) (VC.sub (.c rfl<| .c rfl<| .c rfl<| .c rfl<| .c rfl<| .n _) (.c rfl<| .c rfl<| .c rfl<| .n _)) ?_
    refine AWP.seq ?_
    obtain ⟨l5_3,hl5_3,h⟩ := bindS h
    refine AWP.region (.cons (.move (lt1 rfl) (.tmp rfl))<| .cons (.lenRd (lt1 rfl) (.tmp rfl) Try.underlying28)<| .cons (.mkS (enc := encB) (t := 5) (lt1 rfl) (nm rfl) (.tmp rfl) (.tmp rfl) Try.underlying130 zero4 el4 rfl encB_len (by decide) hl5_3)<| .cons (.assign (lt1 rfl) (.tmp rfl))<| ARun.nil _ _ _) ?_
    refine AWP.vc (s' := ⟨[(1,.rd β3 a1.length (a1.flatMap (encI .i64))),(2,.rd β4 a2.length (a2.flatMap (encI .i64))),(3,.own 1 1 0 a3_b.length),(4,.ptr 2 0),(9,.own 4 1 0 y_2.length),(10,.own 5 1 0 l5_3.length)],[(5,⟨4,true,l5_3.flatMap encB⟩),(4,⟨3,true,y_2.flatMap (encI .i64)⟩),(2,⟨32,false,[.rd β1 a0.Points.length (a0.Points.flatMap encR45),.rd β2 a0.Before.length (a0.Before.flatMap encR93)]⟩),(1,⟨3,true,a3_b.flatMap (encI .i64)⟩)]⟩) (VC.sub (.c rfl<| .c rfl<| .c rfl<| .c rfl<| .c rfl<| .c rfl<| .n _) (.c rfl<| .c rfl<| .c rfl<| .c rfl<| .n _)) ?_
    refine AWP.seq ?_
    obtain ⟨y_4,hy_4,h⟩ := bindS h
    obtain ⟨l5_5,hl5_5,h⟩ := bindS h
    refine AWP.region (.cons (.move (lt1 rfl) (.tmp rfl))<| .cons (.idxOwn (lt1 rfl) (.tmp rfl) (.const _ _ _) Try.underlying130 sz4 rfl hy_4)<| .cons (.storeP (.tmp rfl) (.const _ _ _) sz4 rfl (lt_at1 encB_len hy_4) rfl (fun _ => rfl) (set_at1 encB_len hl5_5 rfl))<| ARun.nil _ _ _) ?_
    refine AWP.vc (s' := ⟨[(1,.rd β3 a1.length (a1.flatMap (encI .i64))),(2,.rd β4 a2.length (a2.flatMap (encI .i64))),(3,.own 1 1 0 a3_b.length),(4,.ptr 2 0),(9,.own 4 1 0 y_2.length),(10,.own 5 1 0 l5_5.length)],[(5,⟨4,true,l5_5.flatMap encB⟩),(4,⟨3,true,y_2.flatMap (encI .i64)⟩),(2,⟨32,false,[.rd β1 a0.Points.length (a0.Points.flatMap encR45),.rd β2 a0.Before.length (a0.Before.flatMap encR93)]⟩),(1,⟨3,true,a3_b.flatMap (encI .i64)⟩)]⟩) (VC.sub (.c rfl<| .c rfl<| .c rfl<| .c rfl<| .c rfl<| .c (lenC (Eq.symm (setLen hl5_5)) rfl)<| .n _) (.c rfl<| .c rfl<| .c rfl<| .c rfl<| .n _)) ?_
    refine AWP.seq ?_
    refine AWP.region (.cons (.assign (lt1 rfl) (.const _ _ _))<| ARun.nil _ _ _) ?_
    refine AWP.vc (s' := ⟨[(1,.rd β3 a1.length (a1.flatMap (encI .i64))),(2,.rd β4 a2.length (a2.flatMap (encI .i64))),(3,.own 1 1 0 a3_b.length),(4,.ptr 2 0),(9,.own 4 1 0 y_2.length),(10,.own 5 1 0 l5_5.length),(11,.sc (.int .i64 (0 : Int)))],[(5,⟨4,true,l5_5.flatMap encB⟩),(4,⟨3,true,y_2.flatMap (encI .i64)⟩),(2,⟨32,false,[.rd β1 a0.Points.length (a0.Points.flatMap encR45),.rd β2 a0.Before.length (a0.Before.flatMap encR93)]⟩),(1,⟨3,true,a3_b.flatMap (encI .i64)⟩)]⟩) (VC.sub (.c rfl<| .c rfl<| .c rfl<| .c rfl<| .c rfl<| .c rfl<| .c rfl<| .n _) (.c rfl<| .c rfl<| .c rfl<| .c rfl<| .n _)) ?_
    refine AWP.seq ?_
    refine AWP.seq ?_
    obtain ⟨t36_6,ht36_6,h⟩ := letS h
    refine AWP.region (.cons (.move (lt1 rfl) (.tmp rfl))<| .cons (.lenRd (lt1 rfl) (.tmp rfl) Try.underlying28)<| .cons (.sub (lt1 rfl) (.tmp rfl) (.const _ _ _))<| .cons (.move (lt1 rfl) (.const _ _ _))<| ARun.nil _ _ _) ?_
    refine AWP.vc (s' := ⟨[(1,.rd β3 a1.length (a1.flatMap (encI .i64))),(2,.rd β4 a2.length (a2.flatMap (encI .i64))),(3,.own 1 1 0 a3_b.length),(4,.ptr 2 0),(9,.own 4 1 0 y_2.length),(10,.own 5 1 0 l5_5.length),(11,.sc (.int .i64 (0 : Int))),(36,.sc (.int .i64 t36_6)),(37,.sc (.int .i64 (0 : Int)))],[(5,⟨4,true,l5_5.flatMap encB⟩),(4,⟨3,true,y_2.flatMap (encI .i64)⟩),(2,⟨32,false,[.rd β1 a0.Points.length (a0.Points.flatMap encR45),.rd β2 a0.Before.length (a0.Before.flatMap encR93)]⟩),(1,⟨3,true,a3_b.flatMap (encI .i64)⟩)]⟩) (by subst ht36_6; exact VC.sub (.c rfl<| .c rfl<| .c rfl<| .c rfl<| .c rfl<| .c rfl<| .c rfl<| .c rfl<| .c rfl<| .n _) (.c rfl<| .c rfl<| .c rfl<| .c rfl<| .n _)) ?_
    refine AWP.joinB' (S := fun p_230 : Int × (List Int) => ⟨[(11,.sc (.int .i64 p_230.1))],[(1,⟨3,true,p_230.2.flatMap (encI .i64)⟩)]⟩) h (fun p_230 h => ?_) (fun k_231 h => ?_)
    · refine AWP.seq ?_
      refine AWP.region (.cons (.move (lt1 rfl) (.tmp rfl))<| .cons (.assign (lt1 rfl) (.tmp rfl))<| ARun.nil _ _ _) ?_
      refine AWP.ret ?_
      obtain rfl := Option.some.inj h
      refine retJ (Res.vc (s' := ⟨[(8,.sc (.int .i64 p_230.1))],[(1,⟨3,true,p_230.2.flatMap (encI .i64)⟩)]⟩) (VC.sub (.c rfl<| .n _) (.c rfl<| .n _)) ?_)
      refine Res.sub (H := [(1,⟨3,true,p_230.2.flatMap (encI .i64)⟩)]) (.c rfl<| .n _) ?_
      exact Res.of rfl (.cons (.tmp rfl) (.nil)) rfl rfl
    · refine AWP.vc (s' := ⟨[(1,.rd β3 a1.length (a1.flatMap (encI .i64))),(2,.rd β4 a2.length (a2.flatMap (encI .i64))),(3,.own 1 1 0 a3_b.length),(4,.ptr 2 0),(9,.own 4 1 0 y_2.length),(10,.own 5 1 0 l5_5.length),(11,.sc (.int .i64 (0 : Int))),(36,.sc (.int .i64 t36_6)),(37,.sc (.int .i64 (0 : Int)))],[(1,⟨3,true,a3_b.flatMap (encI .i64)⟩),(2,⟨32,false,[.rd β1 a0.Points.length (a0.Points.flatMap encR45),.rd β2 a0.Before.length (a0.Before.flatMap encR93)]⟩),(4,⟨3,true,y_2.flatMap (encI .i64)⟩),(5,⟨4,true,l5_5.flatMap encB⟩)]⟩) (VC.sub (.c rfl<| .c rfl<| .c rfl<| .c rfl<| .c rfl<| .c rfl<| .c rfl<| .c rfl<| .c rfl<| .n _) (.c rfl<| .c rfl<| .c rfl<| .c rfl<| .n _)) ?_
      refine AWP.loopM (S := fun x_155 : Int × Int × (List Int) × (List Int) × (List Bool) => ⟨[(1,.rd β3 a1.length (a1.flatMap (encI .i64))),(2,.rd β4 a2.length (a2.flatMap (encI .i64))),(3,.own 1 1 0 x_155.2.2.1.length),(4,.ptr 2 0),(9,.own 4 1 0 x_155.2.2.2.1.length),(10,.own 5 1 0 x_155.2.2.2.2.length),(11,.sc (.int .i64 x_155.1)),(36,.sc (.int .i64 t36_6)),(37,.sc (.int .i64 x_155.2.1))],[(1,⟨3,true,x_155.2.2.1.flatMap (encI .i64)⟩),(2,⟨32,false,[.rd β1 a0.Points.length (a0.Points.flatMap encR45),.rd β2 a0.Before.length (a0.Before.flatMap encR93)]⟩),(4,⟨3,true,x_155.2.2.2.1.flatMap (encI .i64)⟩),(5,⟨4,true,x_155.2.2.2.2.flatMap encB⟩)]⟩) (x := ((0 : Int),(0 : Int),a3_b,y_2,l5_5)) (fun nx_156 x_155 h => ?_) h
      unfold m82_L5 at h
      refine AWP.seq ?_
      refine AWP.region (.cons (.lss (lt1 rfl) (.tmp rfl) (.tmp rfl))<| ARun.nil _ _ _) ?_
      refine AWP.vc (s' := ⟨[(1,.rd β3 a1.length (a1.flatMap (encI .i64))),(2,.rd β4 a2.length (a2.flatMap (encI .i64))),(3,.own 1 1 0 x_155.2.2.1.length),(4,.ptr 2 0),(9,.own 4 1 0 x_155.2.2.2.1.length),(10,.own 5 1 0 x_155.2.2.2.2.length),(11,.sc (.int .i64 x_155.1)),(36,.sc (.int .i64 t36_6)),(37,.sc (.int .i64 x_155.2.1)),(38,.sc (.bool (decide (x_155.2.1 < t36_6))))],[(1,⟨3,true,x_155.2.2.1.flatMap (encI .i64)⟩),(2,⟨32,false,[.rd β1 a0.Points.length (a0.Points.flatMap encR45),.rd β2 a0.Before.length (a0.Before.flatMap encR93)]⟩),(4,⟨3,true,x_155.2.2.2.1.flatMap (encI .i64)⟩),(5,⟨4,true,x_155.2.2.2.2.flatMap encB⟩)]⟩) (VC.sub (.c rfl<| .c rfl<| .c rfl<| .c rfl<| .c rfl<| .c rfl<| .c rfl<| .c rfl<| .c rfl<| .c rfl<| .n _) (.c rfl<| .c rfl<| .c rfl<| .c rfl<| .n _)) ?_
      refine AWP.seq ?_
      refine AWP.cond (.tmp rfl) (fun hc => ?_) (fun hc => ?_)
      · have h := iteT hc h
        refine AWP.skip ?_
        refine AWP.seq ?_
        refine AWP.block ?_
        refine AWP.seq ?_
        refine AWP.region (.cons (.assign (lt1 rfl) (.const _ _ _))<| .cons (.assign (lt1 rfl) (.const _ _ _))<| ARun.nil _ _ _) ?_
        refine AWP.vc (s' := ⟨[(1,.rd β3 a1.length (a1.flatMap (encI .i64))),(2,.rd β4 a2.length (a2.flatMap (encI .i64))),(3,.own 1 1 0 x_155.2.2.1.length),(4,.ptr 2 0),(9,.own 4 1 0 x_155.2.2.2.1.length),(10,.own 5 1 0 x_155.2.2.2.2.length),(11,.sc (.int .i64 x_155.1)),(36,.sc (.int .i64 t36_6)),(37,.sc (.int .i64 x_155.2.1)),(12,.sc (.int .i64 (-1 : Int))),(13,.sc (.int .i64 (0 : Int)))],[(1,⟨3,true,x_155.2.2.1.flatMap (encI .i64)⟩),(2,⟨32,false,[.rd β1 a0.Points.length (a0.Points.flatMap encR45),.rd β2 a0.Before.length (a0.Before.flatMap encR93)]⟩),(4,⟨3,true,x_155.2.2.2.1.flatMap (encI .i64)⟩),(5,⟨4,true,x_155.2.2.2.2.flatMap encB⟩)]⟩) (VC.sub (.c rfl<| .c rfl<| .c rfl<| .c rfl<| .c rfl<| .c rfl<| .c rfl<| .c rfl<| .c rfl<| .c rfl<| .c rfl<| .n _) (.c rfl<| .c rfl<| .c rfl<| .c rfl<| .n _)) ?_
        refine AWP.seq ?_
        refine AWP.seq ?_
        refine AWP.region (.cons (.move (lt1 rfl) (.tmp rfl))<| .cons (.lenRd (lt1 rfl) (.tmp rfl) Try.underlying28)<| .cons (.move (lt1 rfl) (.const _ _ _))<| ARun.nil _ _ _) ?_
        refine AWP.vc (s' := ⟨[(1,.rd β3 a1.length (a1.flatMap (encI .i64))),(2,.rd β4 a2.length (a2.flatMap (encI .i64))),(3,.own 1 1 0 x_155.2.2.1.length),(4,.ptr 2 0),(9,.own 4 1 0 x_155.2.2.2.1.length),(10,.own 5 1 0 x_155.2.2.2.2.length),(11,.sc (.int .i64 x_155.1)),(36,.sc (.int .i64 t36_6)),(37,.sc (.int .i64 x_155.2.1)),(12,.sc (.int .i64 (-1 : Int))),(13,.sc (.int .i64 (0 : Int))),(39,.rd β3 a1.length (a1.flatMap (encI .i64))),(40,.sc (.int .i64 (a1.length : Int))),(41,.sc (.int .i64 (0 : Int)))],[(1,⟨3,true,x_155.2.2.1.flatMap (encI .i64)⟩),(2,⟨32,false,[.rd β1 a0.Points.length (a0.Points.flatMap encR45),.rd β2 a0.Before.length (a0.Before.flatMap encR93)]⟩),(4,⟨3,true,x_155.2.2.2.1.flatMap (encI .i64)⟩),(5,⟨4,true,x_155.2.2.2.2.flatMap encB⟩)]⟩) (VC.sub (.c rfl<| .c rfl<| .c rfl<| .c rfl<| .c rfl<| .c rfl<| .c rfl<| .c rfl<| .c rfl<| .c rfl<| .c rfl<| .c rfl<| .c rfl<| .c rfl<| .n _) (.c rfl<| .c rfl<| .c rfl<| .c rfl<| .n _)) ?_
        refine AWP.joinB' (S := fun p_174 : Int × Int => ⟨[(1,.rd β3 a1.length (a1.flatMap (encI .i64))),(2,.rd β4 a2.length (a2.flatMap (encI .i64))),(3,.own 1 1 0 x_155.2.2.1.length),(4,.ptr 2 0),(9,.own 4 1 0 x_155.2.2.2.1.length),(10,.own 5 1 0 x_155.2.2.2.2.length),(11,.sc (.int .i64 x_155.1)),(12,.sc (.int .i64 p_174.1)),(13,.sc (.int .i64 p_174.2)),(36,.sc (.int .i64 t36_6)),(37,.sc (.int .i64 x_155.2.1))],[(1,⟨3,true,x_155.2.2.1.flatMap (encI .i64)⟩),(2,⟨32,false,[.rd β1 a0.Points.length (a0.Points.flatMap encR45),.rd β2 a0.Before.length (a0.Before.flatMap encR93)]⟩),(4,⟨3,true,x_155.2.2.2.1.flatMap (encI .i64)⟩),(5,⟨4,true,x_155.2.2.2.2.flatMap encB⟩)]⟩) h (fun p_174 h => ?_) (fun k_175 h => ?_)
        · refine AWP.seq ?_
          obtain ⟨y_176,hy_176,h⟩ := bindS h
          obtain ⟨l5_177,hl5_177,h⟩ := bindS h
          refine AWP.region (.cons (.move (lt1 rfl) (.tmp rfl))<| .cons (.move (lt1 rfl) (.tmp rfl))<| .cons (.idxOwn (lt1 rfl) (.tmp rfl) (.tmp rfl) Try.underlying130 sz4 rfl hy_176)<| .cons (.storeP (.tmp rfl) (.const _ _ _) sz4 rfl (lt_at1 encB_len hy_176) rfl (fun _ => rfl) (set_at1 encB_len hl5_177 rfl))<| ARun.nil _ _ _) ?_
          refine AWP.vc (s' := ⟨[(1,.rd β3 a1.length (a1.flatMap (encI .i64))),(2,.rd β4 a2.length (a2.flatMap (encI .i64))),(3,.own 1 1 0 x_155.2.2.1.length),(4,.ptr 2 0),(9,.own 4 1 0 x_155.2.2.2.1.length),(10,.own 5 1 0 l5_177.length),(11,.sc (.int .i64 x_155.1)),(12,.sc (.int .i64 p_174.1)),(13,.sc (.int .i64 p_174.2)),(36,.sc (.int .i64 t36_6)),(37,.sc (.int .i64 x_155.2.1))],[(1,⟨3,true,x_155.2.2.1.flatMap (encI .i64)⟩),(2,⟨32,false,[.rd β1 a0.Points.length (a0.Points.flatMap encR45),.rd β2 a0.Before.length (a0.Before.flatMap encR93)]⟩),(4,⟨3,true,x_155.2.2.2.1.flatMap (encI .i64)⟩),(5,⟨4,true,l5_177.flatMap encB⟩)]⟩) (VC.sub (.c rfl<| .c rfl<| .c rfl<| .c rfl<| .c rfl<| .c (lenC (Eq.symm (setLen hl5_177)) rfl)<| .c rfl<| .c rfl<| .c rfl<| .c rfl<| .c rfl<| .n _) (.c rfl<| .c rfl<| .c rfl<| .c rfl<| .n _)) ?_
          refine AWP.seq ?_
          obtain ⟨t11_178,ht11_178,h⟩ := letS h
          refine AWP.region (.cons (.move (lt1 rfl) (.tmp rfl))<| .cons (.move (lt1 rfl) (.tmp rfl))<| .cons (.add (lt1 rfl) (.tmp rfl) (.tmp rfl))<| .cons (.assign (lt1 rfl) (.tmp rfl))<| ARun.nil _ _ _) ?_
          refine AWP.vc (s' := ⟨[(1,.rd β3 a1.length (a1.flatMap (encI .i64))),(2,.rd β4 a2.length (a2.flatMap (encI .i64))),(3,.own 1 1 0 x_155.2.2.1.length),(4,.ptr 2 0),(9,.own 4 1 0 x_155.2.2.2.1.length),(10,.own 5 1 0 l5_177.length),(11,.sc (.int .i64 t11_178)),(12,.sc (.int .i64 p_174.1)),(36,.sc (.int .i64 t36_6)),(37,.sc (.int .i64 x_155.2.1))],[(1,⟨3,true,x_155.2.2.1.flatMap (encI .i64)⟩),(2,⟨32,false,[.rd β1 a0.Points.length (a0.Points.flatMap encR45),.rd β2 a0.Before.length (a0.Before.flatMap encR93)]⟩),(4,⟨3,true,x_155.2.2.2.1.flatMap (encI .i64)⟩),(5,⟨4,true,l5_177.flatMap encB⟩)]⟩) (by subst ht11_178; exact VC.sub (.c rfl<| .c rfl<| .c rfl<| .c rfl<| .c rfl<| .c rfl<| .c rfl<| .c rfl<| .c rfl<| .c rfl<| .n _) (.c rfl<| .c rfl<| .c rfl<| .c rfl<| .n _)) ?_
          refine AWP.seq ?_
          obtain ⟨y_179,hy_179,h⟩ := bindS h
          obtain ⟨y_180,hy_180,h⟩ := bindS h
          obtain ⟨y_181,hy_181,h⟩ := bindS h
          obtain ⟨l1_182,hl1_182,h⟩ := bindS h
          refine AWP.region (.cons (.move (lt1 rfl) (.tmp rfl))<| .cons (.move (lt1 rfl) (.tmp rfl))<| .cons (.move (lt1 rfl) (.tmp rfl))<| .cons (.indexRd (enc := (encI .i64)) (lt1 rfl) (.tmp rfl) (.tmp rfl) Try.underlying28 sz3 (encI_len .i64) rfl hy_179)<| .cons (.loadR (v := .sc (.int .i64 y_179)) (lt1 rfl) (.tmp rfl) one3 rfl)<| .cons (.idxOwn (lt1 rfl) (.tmp rfl) (.tmp rfl) Try.underlying28 sz3 rfl hy_180)<| .cons (.loadP (lt1 rfl) (.tmp rfl) one3 rfl (cell_at1 (encI_len .i64) hy_180) rfl)<| .cons (.add (lt1 rfl) (.tmp rfl) (.const _ _ _))<| .cons (.idxOwn (lt1 rfl) (.tmp rfl) (.tmp rfl) Try.underlying28 sz3 rfl hy_181)<| .cons (.storeP (.tmp rfl) (.tmp rfl) sz3 rfl (lt_at1 (encI_len .i64) hy_181) rfl (fun _ => rfl) (set_at1 (encI_len .i64) hl1_182 rfl))<| ARun.nil _ _ _) ?_
          refine AWP.vc (s' := ⟨[(1,.rd β3 a1.length (a1.flatMap (encI .i64))),(2,.rd β4 a2.length (a2.flatMap (encI .i64))),(3,.own 1 1 0 l1_182.length),(4,.ptr 2 0),(9,.own 4 1 0 x_155.2.2.2.1.length),(10,.own 5 1 0 l5_177.length),(11,.sc (.int .i64 t11_178)),(12,.sc (.int .i64 p_174.1)),(36,.sc (.int .i64 t36_6)),(37,.sc (.int .i64 x_155.2.1))],[(1,⟨3,true,l1_182.flatMap (encI .i64)⟩),(2,⟨32,false,[.rd β1 a0.Points.length (a0.Points.flatMap encR45),.rd β2 a0.Before.length (a0.Before.flatMap encR93)]⟩),(4,⟨3,true,x_155.2.2.2.1.flatMap (encI .i64)⟩),(5,⟨4,true,l5_177.flatMap encB⟩)]⟩) (VC.sub (.c rfl<| .c rfl<| .c (lenC (Eq.symm (setLen hl1_182)) rfl)<| .c rfl<| .c rfl<| .c rfl<| .c rfl<| .c rfl<| .c rfl<| .c rfl<| .n _) (.c rfl<| .c rfl<| .c rfl<| .c rfl<| .n _)) ?_
          refine AWP.seq ?_
          obtain ⟨y_183,hy_183,h⟩ := bindS h
          obtain ⟨y_184,hy_184,h⟩ := bindS h
          obtain ⟨y_185,hy_185,h⟩ := bindS h
          obtain ⟨l1_186,hl1_186,h⟩ := bindS h
          refine AWP.region (.cons (.move (lt1 rfl) (.tmp rfl))<| .cons (.move (lt1 rfl) (.tmp rfl))<| .cons (.move (lt1 rfl) (.tmp rfl))<| .cons (.idxOwn (lt1 rfl) (.tmp rfl) (.tmp rfl) Try.underlying28 sz3 rfl hy_183)<| .cons (.loadP (lt1 rfl) (.tmp rfl) one3 rfl (cell_at1 (encI_len .i64) hy_183) rfl)<| .cons (.idxOwn (lt1 rfl) (.tmp rfl) (.tmp rfl) Try.underlying28 sz3 rfl hy_184)<| .cons (.loadP (lt1 rfl) (.tmp rfl) one3 rfl (cell_at1 (encI_len .i64) hy_184) rfl)<| .cons (.add (lt1 rfl) (.tmp rfl) (.const _ _ _))<| .cons (.idxOwn (lt1 rfl) (.tmp rfl) (.tmp rfl) Try.underlying28 sz3 rfl hy_185)<| .cons (.storeP (.tmp rfl) (.tmp rfl) sz3 rfl (lt_at1 (encI_len .i64) hy_185) rfl (fun _ => rfl) (set_at1 (encI_len .i64) hl1_186 rfl))<| ARun.nil _ _ _) ?_
          refine AWP.vc (s' := ⟨[(1,.rd β3 a1.length (a1.flatMap (encI .i64))),(2,.rd β4 a2.length (a2.flatMap (encI .i64))),(3,.own 1 1 0 l1_186.length),(4,.ptr 2 0),(9,.own 4 1 0 x_155.2.2.2.1.length),(10,.own 5 1 0 l5_177.length),(11,.sc (.int .i64 t11_178)),(12,.sc (.int .i64 p_174.1)),(36,.sc (.int .i64 t36_6)),(37,.sc (.int .i64 x_155.2.1))],[(1,⟨3,true,l1_186.flatMap (encI .i64)⟩),(2,⟨32,false,[.rd β1 a0.Points.length (a0.Points.flatMap encR45),.rd β2 a0.Before.length (a0.Before.flatMap encR93)]⟩),(4,⟨3,true,x_155.2.2.2.1.flatMap (encI .i64)⟩),(5,⟨4,true,l5_177.flatMap encB⟩)]⟩) (VC.sub (.c rfl<| .c rfl<| .c (lenC (Eq.symm (setLen hl1_186)) rfl)<| .c rfl<| .c rfl<| .c rfl<| .c rfl<| .c rfl<| .c rfl<| .c rfl<| .n _) (.c rfl<| .c rfl<| .c rfl<| .c rfl<| .n _)) ?_
          refine AWP.seq ?_
          refine AWP.region (.cons (.move (lt1 rfl) (.tmp rfl))<| .cons (.lenRd (lt1 rfl) (.tmp rfl) Try.underlying28)<| .cons (.move (lt1 rfl) (.const _ _ _))<| ARun.nil _ _ _) ?_
          refine AWP.vc (s' := ⟨[(1,.rd β3 a1.length (a1.flatMap (encI .i64))),(2,.rd β4 a2.length (a2.flatMap (encI .i64))),(3,.own 1 1 0 l1_186.length),(4,.ptr 2 0),(9,.own 4 1 0 x_155.2.2.2.1.length),(10,.own 5 1 0 l5_177.length),(11,.sc (.int .i64 t11_178)),(12,.sc (.int .i64 p_174.1)),(36,.sc (.int .i64 t36_6)),(37,.sc (.int .i64 x_155.2.1)),(95,.rd β3 a1.length (a1.flatMap (encI .i64))),(96,.sc (.int .i64 (a1.length : Int))),(97,.sc (.int .i64 (0 : Int)))],[(1,⟨3,true,l1_186.flatMap (encI .i64)⟩),(2,⟨32,false,[.rd β1 a0.Points.length (a0.Points.flatMap encR45),.rd β2 a0.Before.length (a0.Before.flatMap encR93)]⟩),(4,⟨3,true,x_155.2.2.2.1.flatMap (encI .i64)⟩),(5,⟨4,true,l5_177.flatMap encB⟩)]⟩) (VC.sub (.c rfl<| .c rfl<| .c rfl<| .c rfl<| .c rfl<| .c rfl<| .c rfl<| .c rfl<| .c rfl<| .c rfl<| .c rfl<| .c rfl<| .c rfl<| .n _) (.c rfl<| .c rfl<| .c rfl<| .c rfl<| .n _)) ?_
          refine AWP.joinB' (S := fun p_227 : (List Int) => ⟨[(1,.rd β3 a1.length (a1.flatMap (encI .i64))),(2,.rd β4 a2.length (a2.flatMap (encI .i64))),(3,.own 1 1 0 l1_186.length),(4,.ptr 2 0),(9,.own 4 1 0 p_227.length),(10,.own 5 1 0 l5_177.length),(11,.sc (.int .i64 t11_178)),(36,.sc (.int .i64 t36_6)),(37,.sc (.int .i64 x_155.2.1))],[(1,⟨3,true,l1_186.flatMap (encI .i64)⟩),(2,⟨32,false,[.rd β1 a0.Points.length (a0.Points.flatMap encR45),.rd β2 a0.Before.length (a0.Before.flatMap encR93)]⟩),(4,⟨3,true,p_227.flatMap (encI .i64)⟩),(5,⟨4,true,l5_177.flatMap encB⟩)]⟩) h (fun p_227 h => ?_) (fun k_228 h => ?_)
          · obtain ⟨t37_229,ht37_229,h⟩ := letS h
            refine AWP.region (.cons (.add (lt1 rfl) (.tmp rfl) (.const _ _ _))<| .cons (.move (lt1 rfl) (.tmp rfl))<| ARun.nil _ _ _) ?_
            exact endJ (t11_178,t37_229,l1_186,p_227,l5_177) h (by subst ht37_229; exact VC.sub (.c rfl<| .c rfl<| .c rfl<| .c rfl<| .c rfl<| .c rfl<| .c rfl<| .c rfl<| .c rfl<| .n _) (.c rfl<| .c rfl<| .c rfl<| .c rfl<| .n _))
          · refine AWP.vc (s' := ⟨[(1,.rd β3 a1.length (a1.flatMap (encI .i64))),(2,.rd β4 a2.length (a2.flatMap (encI .i64))),(3,.own 1 1 0 l1_186.length),(4,.ptr 2 0),(9,.own 4 1 0 x_155.2.2.2.1.length),(10,.own 5 1 0 l5_177.length),(11,.sc (.int .i64 t11_178)),(12,.sc (.int .i64 p_174.1)),(36,.sc (.int .i64 t36_6)),(37,.sc (.int .i64 x_155.2.1)),(95,.rd β3 a1.length (a1.flatMap (encI .i64))),(96,.sc (.int .i64 (a1.length : Int))),(97,.sc (.int .i64 (0 : Int)))],[(1,⟨3,true,l1_186.flatMap (encI .i64)⟩),(2,⟨32,false,[.rd β1 a0.Points.length (a0.Points.flatMap encR45),.rd β2 a0.Before.length (a0.Before.flatMap encR93)]⟩),(4,⟨3,true,x_155.2.2.2.1.flatMap (encI .i64)⟩),(5,⟨4,true,l5_177.flatMap encB⟩)]⟩) (VC.sub (.c rfl<| .c rfl<| .c rfl<| .c rfl<| .c rfl<| .c rfl<| .c rfl<| .c rfl<| .c rfl<| .c rfl<| .c rfl<| .c rfl<| .c rfl<| .n _) (.c rfl<| .c rfl<| .c rfl<| .c rfl<| .n _)) ?_
            refine AWP.loopM (S := fun x_213 : Int × (List Int) => ⟨[(1,.rd β3 a1.length (a1.flatMap (encI .i64))),(2,.rd β4 a2.length (a2.flatMap (encI .i64))),(3,.own 1 1 0 l1_186.length),(4,.ptr 2 0),(9,.own 4 1 0 x_213.2.length),(10,.own 5 1 0 l5_177.length),(11,.sc (.int .i64 t11_178)),(12,.sc (.int .i64 p_174.1)),(36,.sc (.int .i64 t36_6)),(37,.sc (.int .i64 x_155.2.1)),(95,.rd β3 a1.length (a1.flatMap (encI .i64))),(96,.sc (.int .i64 (a1.length : Int))),(97,.sc (.int .i64 x_213.1))],[(1,⟨3,true,l1_186.flatMap (encI .i64)⟩),(2,⟨32,false,[.rd β1 a0.Points.length (a0.Points.flatMap encR45),.rd β2 a0.Before.length (a0.Before.flatMap encR93)]⟩),(4,⟨3,true,x_213.2.flatMap (encI .i64)⟩),(5,⟨4,true,l5_177.flatMap encB⟩)]⟩) (x := ((0 : Int),x_155.2.2.2.1)) (fun nx_214 x_213 h => ?_) h
            unfold m82_L7 at h
            refine AWP.seq ?_
            refine AWP.region (.cons (.lss (lt1 rfl) (.tmp rfl) (.tmp rfl))<| ARun.nil _ _ _) ?_
            refine AWP.vc (s' := ⟨[(1,.rd β3 a1.length (a1.flatMap (encI .i64))),(2,.rd β4 a2.length (a2.flatMap (encI .i64))),(3,.own 1 1 0 l1_186.length),(4,.ptr 2 0),(9,.own 4 1 0 x_213.2.length),(10,.own 5 1 0 l5_177.length),(11,.sc (.int .i64 t11_178)),(12,.sc (.int .i64 p_174.1)),(36,.sc (.int .i64 t36_6)),(37,.sc (.int .i64 x_155.2.1)),(95,.rd β3 a1.length (a1.flatMap (encI .i64))),(96,.sc (.int .i64 (a1.length : Int))),(97,.sc (.int .i64 x_213.1)),(98,.sc (.bool (decide (x_213.1 < (a1.length : Int)))))],[(1,⟨3,true,l1_186.flatMap (encI .i64)⟩),(2,⟨32,false,[.rd β1 a0.Points.length (a0.Points.flatMap encR45),.rd β2 a0.Before.length (a0.Before.flatMap encR93)]⟩),(4,⟨3,true,x_213.2.flatMap (encI .i64)⟩),(5,⟨4,true,l5_177.flatMap encB⟩)]⟩) (VC.sub (.c rfl<| .c rfl<| .c rfl<| .c rfl<| .c rfl<| .c rfl<| .c rfl<| .c rfl<| .c rfl<| .c rfl<| .c rfl<| .c rfl<| .c rfl<| .c rfl<| .n _) (.c rfl<| .c rfl<| .c rfl<| .c rfl<| .n _)) ?_
            refine AWP.seq ?_
            refine AWP.cond (.tmp rfl) (fun hc => ?_) (fun hc => ?_)
            · have h := iteT hc h
              refine AWP.skip ?_
              refine AWP.seq ?_
              refine AWP.block ?_
              refine AWP.seq ?_
              obtain ⟨y_215,hy_215,h⟩ := bindS h
              refine AWP.region (.cons (.move (lt1 rfl) (.tmp rfl))<| .cons (.indexRd (enc := (encI .i64)) (lt1 rfl) (.tmp rfl) (.tmp rfl) Try.underlying28 sz3 (encI_len .i64) rfl hy_215)<| .cons (.loadR (v := .sc (.int .i64 y_215)) (lt1 rfl) (.tmp rfl) one3 rfl)<| .cons (.assign (lt1 rfl) (.tmp rfl))<| .cons (.assign (lt1 rfl) (.tmp rfl))<| ARun.nil _ _ _) ?_
              refine AWP.vc (s' := ⟨[(1,.rd β3 a1.length (a1.flatMap (encI .i64))),(2,.rd β4 a2.length (a2.flatMap (encI .i64))),(3,.own 1 1 0 l1_186.length),(4,.ptr 2 0),(9,.own 4 1 0 x_213.2.length),(10,.own 5 1 0 l5_177.length),(11,.sc (.int .i64 t11_178)),(12,.sc (.int .i64 p_174.1)),(36,.sc (.int .i64 t36_6)),(37,.sc (.int .i64 x_155.2.1)),(95,.rd β3 a1.length (a1.flatMap (encI .i64))),(96,.sc (.int .i64 (a1.length : Int))),(97,.sc (.int .i64 x_213.1)),(17,.sc (.int .i64 x_213.1)),(18,.sc (.int .i64 y_215))],[(1,⟨3,true,l1_186.flatMap (encI .i64)⟩),(2,⟨32,false,[.rd β1 a0.Points.length (a0.Points.flatMap encR45),.rd β2 a0.Before.length (a0.Before.flatMap encR93)]⟩),(4,⟨3,true,x_213.2.flatMap (encI .i64)⟩),(5,⟨4,true,l5_177.flatMap encB⟩)]⟩) (VC.sub (.c rfl<| .c rfl<| .c rfl<| .c rfl<| .c rfl<| .c rfl<| .c rfl<| .c rfl<| .c rfl<| .c rfl<| .c rfl<| .c rfl<| .c rfl<| .c rfl<| .c rfl<| .n _) (.c rfl<| .c rfl<| .c rfl<| .c rfl<| .n _)) ?_
              refine AWP.seq ?_
              obtain ⟨y_216,hy_216,h⟩ := bindS h
              obtain ⟨y_217,hy_217,h⟩ := bindS h
              obtain ⟨y_218,hy_218,h⟩ := bindS h
              obtain ⟨y_219,hy_219,h⟩ := bindS h
              obtain ⟨y_220,hy_220,h⟩ := bindS h
              refine AWP.draw (s' := ⟨[(1,.rd β3 a1.length (a1.flatMap (encI .i64))),(2,.rd β4 a2.length (a2.flatMap (encI .i64))),(3,.own 1 1 0 l1_186.length),(4,.ptr 2 0),(9,.own 4 1 0 x_213.2.length),(10,.own 5 1 0 l5_177.length),(11,.sc (.int .i64 t11_178)),(12,.sc (.int .i64 p_174.1)),(17,.sc (.int .i64 x_213.1)),(36,.sc (.int .i64 t36_6)),(37,.sc (.int .i64 x_155.2.1)),(95,.rd β3 a1.length (a1.flatMap (encI .i64))),(96,.sc (.int .i64 (a1.length : Int))),(97,.sc (.int .i64 x_213.1)),(125,.sc (.bool ((!y_216) && (decide (y_218 < y_220)))))],[(1,⟨3,true,l1_186.flatMap (encI .i64)⟩),(2,⟨32,false,[.rd β1 a0.Points.length (a0.Points.flatMap encR45),.rd β2 a0.Before.length (a0.Before.flatMap encR93)]⟩),(4,⟨3,true,x_213.2.flatMap (encI .i64)⟩),(5,⟨4,true,l5_177.flatMap encB⟩)]⟩) mixed [⟨1,.rd β3 a1.length (a1.flatMap (encI .i64)),none,[]⟩,⟨2,.rd β4 a2.length (a2.flatMap (encI .i64)),none,[]⟩,⟨3,.own 1 1 0 l1_186.length,none,[]⟩,⟨4,.ptr 2 0,none,[]⟩,⟨9,.own 4 1 0 x_213.2.length,none,[]⟩,⟨10,.own 5 1 0 l5_177.length,none,[]⟩,⟨11,.sc (.int .i64 t11_178),none,[]⟩,⟨12,.sc (.int .i64 p_174.1),none,[]⟩,⟨17,.sc (.int .i64 x_213.1),none,[]⟩,⟨18,.sc (.int .i64 y_215),none,[]⟩,⟨36,.sc (.int .i64 t36_6),none,[]⟩,⟨37,.sc (.int .i64 x_155.2.1),none,[]⟩,⟨95,.rd β3 a1.length (a1.flatMap (encI .i64)),none,[]⟩,⟨96,.sc (.int .i64 (a1.length : Int)),none,[]⟩,⟨97,.sc (.int .i64 x_213.1),none,[]⟩,⟨102,.own 5 1 0 l5_177.length,some 0,[]⟩,⟨103,.sc (.int .i64 x_213.1),some 1,[]⟩,⟨104,.ptr 5 (0 + (x_213.1).toNat * 1),some 2,[]⟩,⟨105,.sc (.bool y_216),some 3,[]⟩,⟨106,.sc (.bool (!y_216)),some 4,[]⟩,⟨107,.sc (.bool (!y_216)),some 5,[]⟩,⟨108,.gd (!y_216) (.agg [.rd β1 a0.Points.length (a0.Points.flatMap encR45),.rd β2 a0.Before.length (a0.Before.flatMap encR93)]),some 6,[]⟩,⟨109,.gd (!y_216) (.sc (.int .i64 y_215)),some 7,[]⟩,⟨110,.gd (!y_216) (.rd β3 a1.length (a1.flatMap (encI .i64))),some 8,[]⟩,⟨111,.gd (!y_216) (.sc (.int .i64 p_174.1)),some 9,[]⟩,⟨112,.gd (!y_216) (.rptr β3 [.sc (.int .i64 y_217)]),some 10,[]⟩,⟨113,.gd (!y_216) (.sc (.int .i64 y_217)),some 11,[]⟩,⟨114,.gd (!y_216) (.rd β4 a2.length (a2.flatMap (encI .i64))),some 12,[]⟩,⟨115,.gd (!y_216) (.sc (.int .i64 y_218)),some 13,[]⟩,⟨116,.gd (!y_216) (.agg [.rd β1 a0.Points.length (a0.Points.flatMap encR45),.rd β2 a0.Before.length (a0.Before.flatMap encR93)]),some 14,[]⟩,⟨117,.gd (!y_216) (.sc (.int .i64 y_215)),some 15,[]⟩,⟨118,.gd (!y_216) (.own 4 1 0 x_213.2.length),some 16,[]⟩,⟨119,.gd (!y_216) (.sc (.int .i64 x_213.1)),some 17,[]⟩,⟨120,.gd (!y_216) (.ptr 4 (0 + (x_213.1).toNat * 1)),some 18,[]⟩,⟨121,.gd (!y_216) (.sc (.int .i64 y_219)),some 19,[]⟩,⟨122,.gd (!y_216) (.rd β4 a2.length (a2.flatMap (encI .i64))),some 20,[]⟩,⟨123,.gd (!y_216) (.sc (.int .i64 y_220)),some 21,[]⟩,⟨124,.gd (!y_216) (.sc (.bool (decide (y_218 < y_220)))),some 22,[]⟩,⟨125,.sc (.bool ((!y_216) && (decide (y_218 < y_220)))),some 23,[]⟩] [⟨[5],0,0,some (102,.own 5 1 0 l5_177.length),[]⟩,⟨[8],0,0,some (103,.sc (.int .i64 x_213.1)),[]⟩,⟨[15,16],0,0,some (104,.ptr 5 (0 + (x_213.1).toNat * 1)),[]⟩,⟨[17],0,0,some (105,.sc (.bool y_216)),[]⟩,⟨[18],0,0,some (106,.sc (.bool (!y_216))),[]⟩,⟨[19],0,0,some (107,.sc (.bool (!y_216))),[]⟩,⟨[20,3],0,0,some (108,.gd (!y_216) (.agg [.rd β1 a0.Points.length (a0.Points.flatMap encR45),.rd β2 a0.Before.length (a0.Before.flatMap encR93)])),[]⟩,⟨[20,9],0,0,some (109,.gd (!y_216) (.sc (.int .i64 y_215))),[]⟩,⟨[20,0],0,0,some (110,.gd (!y_216) (.rd β3 a1.length (a1.flatMap (encI .i64)))),[]⟩,⟨[20,7],0,0,some (111,.gd (!y_216) (.sc (.int .i64 p_174.1))),[]⟩,⟨[20,23,24],0,0,some (112,.gd (!y_216) (.rptr β3 [.sc (.int .i64 y_217)])),[]⟩,⟨[20,25],0,0,some (113,.gd (!y_216) (.sc (.int .i64 y_217))),[]⟩,⟨[20,1],0,0,some (114,.gd (!y_216) (.rd β4 a2.length (a2.flatMap (encI .i64)))),[]⟩,⟨[20,21,22,26,27],0,0,some (115,.gd (!y_216) (.sc (.int .i64 y_218))),[]⟩,⟨[20,3],0,0,some (116,.gd (!y_216) (.agg [.rd β1 a0.Points.length (a0.Points.flatMap encR45),.rd β2 a0.Before.length (a0.Before.flatMap encR93)])),[]⟩,⟨[20,9],0,0,some (117,.gd (!y_216) (.sc (.int .i64 y_215))),[]⟩,⟨[20,4],0,0,some (118,.gd (!y_216) (.own 4 1 0 x_213.2.length)),[]⟩,⟨[20,8],0,0,some (119,.gd (!y_216) (.sc (.int .i64 x_213.1))),[]⟩,⟨[20,31,32],0,0,some (120,.gd (!y_216) (.ptr 4 (0 + (x_213.1).toNat * 1))),[]⟩,⟨[20,33],0,0,some (121,.gd (!y_216) (.sc (.int .i64 y_219))),[]⟩,⟨[20,1],0,0,some (122,.gd (!y_216) (.rd β4 a2.length (a2.flatMap (encI .i64)))),[]⟩,⟨[20,29,30,34,35],0,0,some (123,.gd (!y_216) (.sc (.int .i64 y_220))),[]⟩,⟨[20,28,36],0,0,some (124,.gd (!y_216) (.sc (.bool (decide (y_218 < y_220))))),[]⟩,⟨[20,37],0,0,some (125,.sc (.bool ((!y_216) && (decide (y_218 < y_220))))),[]⟩] [] [[(1,⟨3,true,l1_186.flatMap (encI .i64)⟩),(2,⟨32,false,[.rd β1 a0.Points.length (a0.Points.flatMap encR45),.rd β2 a0.Before.length (a0.Before.flatMap encR93)]⟩),(4,⟨3,true,x_213.2.flatMap (encI .i64)⟩),(5,⟨4,true,l5_177.flatMap encB⟩)]] [[],[],[0,1],[0,1,2],[0,1,2,3],[0,1,2,3,4],[0,1,2,3,4,5],[0,1,2,3,4,5],[0,1,2,3,4,5],[0,1,2,3,4,5],[0,1,2,3,4,5,8,9],[0,1,2,3,4,5,8,9,10],[0,1,2,3,4,5],[0,1,2,3,4,5,6,7,8,9,10,11,12],[0,1,2,3,4,5],[0,1,2,3,4,5],[0,1,2,3,4,5],[0,1,2,3,4,5],[0,1,2,3,4,5,16,17],[0,1,2,3,4,5,16,17,18],[0,1,2,3,4,5],[0,1,2,3,4,5,6,7,8,9,10,11,12,13,14,15,16,17,18,19,20],[0,1,2,3,4,5,6,7,8,9,10,11,12,13,14,15,16,17,18,19,20,21],[0,1,2,3,4,5,6,7,8,9,10,11,12,13,14,15,16,17,18,19,20,21,22]] (by kernel_rfl) (by kernel_rfl) (BornL.ok (.o<| .o<| .o<| .o<| .o<| .o<| .o<| .o<| .o<| .o<| .o<| .o<| .o<| .o<| .o<| .b rfl rfl<| .b rfl rfl<| .b rfl rfl<| .b rfl rfl<| .b rfl rfl<| .b rfl rfl<| .b rfl rfl<| .b rfl rfl<| .b rfl rfl<| .b rfl rfl<| .b rfl rfl<| .b rfl rfl<| .b rfl rfl<| .b rfl rfl<| .b rfl rfl<| .b rfl rfl<| .b rfl rfl<| .b rfl rfl<| .b rfl rfl<| .b rfl rfl<| .b rfl rfl<| .b rfl rfl<| .b rfl rfl<| .b rfl rfl<| .n)) (BaseL.ok (.o rfl<| .o rfl<| .o rfl<| .o rfl<| .o rfl<| .o rfl<| .o rfl<| .o rfl<| .o rfl<| .o rfl<| .o rfl<| .o rfl<| .o rfl<| .o rfl<| .o rfl<| .b<| .b<| .b<| .b<| .b<| .b<| .b<| .b<| .b<| .b<| .b<| .b<| .b<| .b<| .b<| .b<| .b<| .b<| .b<| .b<| .b<| .b<| .b<| .b<| .n)) rfl (by decide) (allLt rfl) (.read rfl (.c (.put (fun E hE => .move (lt1 rfl) (.tmp (hE.at (k := 0) rfl)))) .n)<| .pure rfl (fun H => .put (fun E hE => .move (lt1 rfl) (.tmp (hE.at (k := 0) rfl))))<| .read rfl (.c (.put (fun E hE => .idxOwn (lt1 rfl) (.tmp (hE.at (k := 0) rfl)) (.tmp (hE.at (k := 1) rfl)) Try.underlying130 sz4 rfl hy_216)) .n)<| .read rfl (.c (.put (fun E hE => .loadP (lt1 rfl) (.tmp (hE.at (k := 0) rfl)) one4 rfl (cell_at1 encB_len hy_216) rfl)) .n)<| .pure rfl (fun H => .put (fun E hE => .not (lt1 rfl) (.tmp (hE.at (k := 0) rfl))))<| .pure rfl (fun H => .put (fun E hE => .move (lt1 rfl) (.tmp (hE.at (k := 0) rfl))))<| .read rfl (.c (.gput (b := (!y_216)) (want := true) (j := 5) (dj := 107) rfl (lt1 rfl) (lt1 rfl) (fun E hE => hE.at (k := 0) rfl) (fun hg E hE => .loadPA (lt1 rfl) (.tmp (hE.at (k := 1) rfl)) agg32 rfl rfl rfl rfl)) .n)<| .pure rfl (fun H => .gput (b := (!y_216)) (want := true) (j := 5) (dj := 107) rfl (lt1 rfl) (lt1 rfl) (fun E hE => hE.at (k := 0) rfl) (fun hg E hE => .move (lt1 rfl) (.tmp (hE.at (k := 1) rfl))))<| .pure rfl (fun H => .gput (b := (!y_216)) (want := true) (j := 5) (dj := 107) rfl (lt1 rfl) (lt1 rfl) (fun E hE => hE.at (k := 0) rfl) (fun hg E hE => .move (lt1 rfl) (.tmp (hE.at (k := 1) rfl))))<| .pure rfl (fun H => .gput (b := (!y_216)) (want := true) (j := 5) (dj := 107) rfl (lt1 rfl) (lt1 rfl) (fun E hE => hE.at (k := 0) rfl) (fun hg E hE => .move (lt1 rfl) (.tmp (hE.at (k := 1) rfl))))<| .pure rfl (fun H => .gput (b := (!y_216)) (want := true) (j := 5) (dj := 107) rfl (lt1 rfl) (lt1 rfl) (fun E hE => hE.at (k := 0) rfl) (fun hg E hE => .indexRd (enc := (encI .i64)) (lt1 rfl) (.gd hg (.tmp (hE.at (k := 1) rfl))) (.gd hg (.tmp (hE.at (k := 2) rfl))) Try.underlying28 sz3 (encI_len .i64) rfl (gdB hy_217 hg)))<| .pure rfl (fun H => .gput (b := (!y_216)) (want := true) (j := 5) (dj := 107) rfl (lt1 rfl) (lt1 rfl) (fun E hE => hE.at (k := 0) rfl) (fun hg E hE => .loadR (v := .sc (.int .i64 y_217)) (lt1 rfl) (.gd hg (.tmp (hE.at (k := 1) rfl))) one3 rfl))<| .pure rfl (fun H => .gput (b := (!y_216)) (want := true) (j := 5) (dj := 107) rfl (lt1 rfl) (lt1 rfl) (fun E hE => hE.at (k := 0) rfl) (fun hg E hE => .move (lt1 rfl) (.tmp (hE.at (k := 1) rfl))))<| .pure rfl (fun H => .gput (b := (!y_216)) (want := true) (j := 5) (dj := 107) rfl (lt1 rfl) (lt1 rfl) (fun E hE => hE.at (k := 0) rfl) (fun hg E hE => .call0 (bw := false) (lt1 rfl) (c85 (β1 := β1) (β2 := β2) (β3 := β4) n (R24.mk a0.Points a0.Before) y_215 y_217 a2 (gdB hy_218 hg)) (.cons (.gd hg (.tmp (hE.at (k := 1) rfl))) (.ren rfl) (.cons (.gd hg (.tmp (hE.at (k := 2) rfl))) (.ren rfl) (.cons (.gd hg (.tmp (hE.at (k := 3) rfl))) (.ren rfl) (.cons (.gd hg (.tmp (hE.at (k := 4) rfl))) (.ren rfl) (.nil))))) rfl))<| .read rfl (.c (.gput (b := (!y_216)) (want := true) (j := 5) (dj := 107) rfl (lt1 rfl) (lt1 rfl) (fun E hE => hE.at (k := 0) rfl) (fun hg E hE => .loadPA (lt1 rfl) (.tmp (hE.at (k := 1) rfl)) agg32 rfl rfl rfl rfl)) .n)<| .pure rfl (fun H => .gput (b := (!y_216)) (want := true) (j := 5) (dj := 107) rfl (lt1 rfl) (lt1 rfl) (fun E hE => hE.at (k := 0) rfl) (fun hg E hE => .move (lt1 rfl) (.tmp (hE.at (k := 1) rfl))))<| .read rfl (.c (.gput (b := (!y_216)) (want := true) (j := 5) (dj := 107) rfl (lt1 rfl) (lt1 rfl) (fun E hE => hE.at (k := 0) rfl) (fun hg E hE => .move (lt1 rfl) (.tmp (hE.at (k := 1) rfl)))) .n)<| .pure rfl (fun H => .gput (b := (!y_216)) (want := true) (j := 5) (dj := 107) rfl (lt1 rfl) (lt1 rfl) (fun E hE => hE.at (k := 0) rfl) (fun hg E hE => .move (lt1 rfl) (.tmp (hE.at (k := 1) rfl))))<| .read rfl (.c (.gput (b := (!y_216)) (want := true) (j := 5) (dj := 107) rfl (lt1 rfl) (lt1 rfl) (fun E hE => hE.at (k := 0) rfl) (fun hg E hE => .idxOwn (lt1 rfl) (.gd hg (.tmp (hE.at (k := 1) rfl))) (.gd hg (.tmp (hE.at (k := 2) rfl))) Try.underlying28 sz3 rfl (gdB hy_219 hg))) .n)<| .read rfl (.c (.gput (b := (!y_216)) (want := true) (j := 5) (dj := 107) rfl (lt1 rfl) (lt1 rfl) (fun E hE => hE.at (k := 0) rfl) (fun hg E hE => .loadP (lt1 rfl) (.gd hg (.tmp (hE.at (k := 1) rfl))) one3 rfl (cell_at1 (encI_len .i64) (gdB hy_219 hg)) rfl)) .n)<| .pure rfl (fun H => .gput (b := (!y_216)) (want := true) (j := 5) (dj := 107) rfl (lt1 rfl) (lt1 rfl) (fun E hE => hE.at (k := 0) rfl) (fun hg E hE => .move (lt1 rfl) (.tmp (hE.at (k := 1) rfl))))<| .pure rfl (fun H => .gput (b := (!y_216)) (want := true) (j := 5) (dj := 107) rfl (lt1 rfl) (lt1 rfl) (fun E hE => hE.at (k := 0) rfl) (fun hg E hE => .call0 (bw := false) (lt1 rfl) (c85 (β1 := β1) (β2 := β2) (β3 := β4) n (R24.mk a0.Points a0.Before) y_215 y_219 a2 (gdB hy_220 hg)) (.cons (.gd hg (.tmp (hE.at (k := 1) rfl))) (.ren rfl) (.cons (.gd hg (.tmp (hE.at (k := 2) rfl))) (.ren rfl) (.cons (.gd hg (.tmp (hE.at (k := 3) rfl))) (.ren rfl) (.cons (.gd hg (.tmp (hE.at (k := 4) rfl))) (.ren rfl) (.nil))))) rfl))<| .pure rfl (fun H => .gput (b := (!y_216)) (want := true) (j := 5) (dj := 107) rfl (lt1 rfl) (lt1 rfl) (fun E hE => hE.at (k := 0) rfl) (fun hg E hE => .lss (lt1 rfl) (.gd hg (.tmp (hE.at (k := 1) rfl))) (.gd hg (.tmp (hE.at (k := 2) rfl)))))<| .pure rfl (fun H => .put (fun E hE => .pickAnd (lt1 rfl) (.tmp (hE.at (k := 0) rfl)) (.tmp (hE.at (k := 1) rfl)) (.const _ _ _)))<| .nil _) (fun E hE => .c (DInv.at hE (k := 0) rfl rfl rfl)<| .c (DInv.at hE (k := 1) rfl rfl rfl)<| .c (DInv.at hE (k := 2) rfl rfl rfl)<| .c (DInv.at hE (k := 3) rfl rfl rfl)<| .c (DInv.at hE (k := 4) rfl rfl rfl)<| .c (DInv.at hE (k := 5) rfl rfl rfl)<| .c (DInv.at hE (k := 6) rfl rfl rfl)<| .c (DInv.at hE (k := 7) rfl rfl rfl)<| .c (DInv.at hE (k := 8) rfl rfl rfl)<| .c (DInv.at hE (k := 10) rfl rfl rfl)<| .c (DInv.at hE (k := 11) rfl rfl rfl)<| .c (DInv.at hE (k := 12) rfl rfl rfl)<| .c (DInv.at hE (k := 13) rfl rfl rfl)<| .c (DInv.at hE (k := 14) rfl rfl rfl)<| .c (DInv.at hE (k := 38) rfl rfl rfl)<| .n _) rfl ?_
              refine AWP.vc (s' := ⟨[(1,.rd β3 a1.length (a1.flatMap (encI .i64))),(2,.rd β4 a2.length (a2.flatMap (encI .i64))),(3,.own 1 1 0 l1_186.length),(4,.ptr 2 0),(9,.own 4 1 0 x_213.2.length),(10,.own 5 1 0 l5_177.length),(11,.sc (.int .i64 t11_178)),(12,.sc (.int .i64 p_174.1)),(36,.sc (.int .i64 t36_6)),(37,.sc (.int .i64 x_155.2.1)),(95,.rd β3 a1.length (a1.flatMap (encI .i64))),(96,.sc (.int .i64 (a1.length : Int))),(97,.sc (.int .i64 x_213.1)),(17,.sc (.int .i64 x_213.1)),(125,.sc (.bool ((!y_216) && (decide (y_218 < y_220)))))],[(1,⟨3,true,l1_186.flatMap (encI .i64)⟩),(2,⟨32,false,[.rd β1 a0.Points.length (a0.Points.flatMap encR45),.rd β2 a0.Before.length (a0.Before.flatMap encR93)]⟩),(4,⟨3,true,x_213.2.flatMap (encI .i64)⟩),(5,⟨4,true,l5_177.flatMap encB⟩)]⟩) (VC.sub (.c rfl<| .c rfl<| .c rfl<| .c rfl<| .c rfl<| .c rfl<| .c rfl<| .c rfl<| .c rfl<| .c rfl<| .c rfl<| .c rfl<| .c rfl<| .c rfl<| .c rfl<| .n _) (.c rfl<| .c rfl<| .c rfl<| .c rfl<| .n _)) ?_
              refine AWP.join' (S := fun p_224 : (List Int) => ⟨[(1,.rd β3 a1.length (a1.flatMap (encI .i64))),(2,.rd β4 a2.length (a2.flatMap (encI .i64))),(3,.own 1 1 0 l1_186.length),(4,.ptr 2 0),(9,.own 4 1 0 p_224.length),(10,.own 5 1 0 l5_177.length),(11,.sc (.int .i64 t11_178)),(12,.sc (.int .i64 p_174.1)),(36,.sc (.int .i64 t36_6)),(37,.sc (.int .i64 x_155.2.1)),(95,.rd β3 a1.length (a1.flatMap (encI .i64))),(96,.sc (.int .i64 (a1.length : Int))),(97,.sc (.int .i64 x_213.1))],[(1,⟨3,true,l1_186.flatMap (encI .i64)⟩),(2,⟨32,false,[.rd β1 a0.Points.length (a0.Points.flatMap encR45),.rd β2 a0.Before.length (a0.Before.flatMap encR93)]⟩),(4,⟨3,true,p_224.flatMap (encI .i64)⟩),(5,⟨4,true,l5_177.flatMap encB⟩)]⟩) h (fun p_224 h => ?_) (fun k_225 h => ?_)
              · obtain ⟨t97_226,ht97_226,h⟩ := letS h
                refine AWP.region (.cons (.add (lt1 rfl) (.tmp rfl) (.const _ _ _))<| .cons (.move (lt1 rfl) (.tmp rfl))<| ARun.nil _ _ _) ?_
                exact endJ (t97_226,p_224) h (by subst ht97_226; exact VC.sub (.c rfl<| .c rfl<| .c rfl<| .c rfl<| .c rfl<| .c rfl<| .c rfl<| .c rfl<| .c rfl<| .c rfl<| .c rfl<| .c rfl<| .c rfl<| .n _) (.c rfl<| .c rfl<| .c rfl<| .c rfl<| .n _))
              · refine AWP.cond (.tmp rfl) (fun hc => ?_) (fun hc => ?_)
                · have h := iteT hc h
                  obtain ⟨y_221,hy_221,h⟩ := bindS h
                  obtain ⟨y_222,hy_222,h⟩ := bindS h
                  obtain ⟨l4_223,hl4_223,h⟩ := bindS h
                  refine AWP.region (.cons (.move (lt1 rfl) (.tmp rfl))<| .cons (.move (lt1 rfl) (.tmp rfl))<| .cons (.move (lt1 rfl) (.tmp rfl))<| .cons (.move (lt1 rfl) (.tmp rfl))<| .cons (.indexRd (enc := (encI .i64)) (lt1 rfl) (.tmp rfl) (.tmp rfl) Try.underlying28 sz3 (encI_len .i64) rfl hy_221)<| .cons (.loadR (v := .sc (.int .i64 y_221)) (lt1 rfl) (.tmp rfl) one3 rfl)<| .cons (.idxOwn (lt1 rfl) (.tmp rfl) (.tmp rfl) Try.underlying28 sz3 rfl hy_222)<| .cons (.storeP (.tmp rfl) (.tmp rfl) sz3 rfl (lt_at1 (encI_len .i64) hy_222) rfl (fun _ => rfl) (set_at1 (encI_len .i64) hl4_223 rfl))<| ARun.nil _ _ _) ?_
                  exact endJ l4_223 h (VC.sub (.c rfl<| .c rfl<| .c rfl<| .c rfl<| .c (lenC (Eq.symm (setLen hl4_223)) rfl)<| .c rfl<| .c rfl<| .c rfl<| .c rfl<| .c rfl<| .c rfl<| .c rfl<| .c rfl<| .n _) (.c rfl<| .c rfl<| .c rfl<| .c rfl<| .n _))
                · have h := iteF hc h
                  refine AWP.skip ?_
                  exact endJ x_213.2 h (VC.sub (.c rfl<| .c rfl<| .c rfl<| .c rfl<| .c rfl<| .c rfl<| .c rfl<| .c rfl<| .c rfl<| .c rfl<| .c rfl<| .c rfl<| .c rfl<| .n _) (.c rfl<| .c rfl<| .c rfl<| .c rfl<| .n _))
            · have h := iteF hc h
              refine AWP.exit ?_
              exact endJ x_213.2 h (VC.sub (.c rfl<| .c rfl<| .c rfl<| .c rfl<| .c rfl<| .c rfl<| .c rfl<| .c rfl<| .c rfl<| .n _) (.c rfl<| .c rfl<| .c rfl<| .c rfl<| .n _))
        · refine AWP.vc (s' := ⟨[(1,.rd β3 a1.length (a1.flatMap (encI .i64))),(2,.rd β4 a2.length (a2.flatMap (encI .i64))),(3,.own 1 1 0 x_155.2.2.1.length),(4,.ptr 2 0),(9,.own 4 1 0 x_155.2.2.2.1.length),(10,.own 5 1 0 x_155.2.2.2.2.length),(11,.sc (.int .i64 x_155.1)),(12,.sc (.int .i64 (-1 : Int))),(13,.sc (.int .i64 (0 : Int))),(36,.sc (.int .i64 t36_6)),(37,.sc (.int .i64 x_155.2.1)),(39,.rd β3 a1.length (a1.flatMap (encI .i64))),(40,.sc (.int .i64 (a1.length : Int))),(41,.sc (.int .i64 (0 : Int)))],[(1,⟨3,true,x_155.2.2.1.flatMap (encI .i64)⟩),(2,⟨32,false,[.rd β1 a0.Points.length (a0.Points.flatMap encR45),.rd β2 a0.Before.length (a0.Before.flatMap encR93)]⟩),(4,⟨3,true,x_155.2.2.2.1.flatMap (encI .i64)⟩),(5,⟨4,true,x_155.2.2.2.2.flatMap encB⟩)]⟩) (VC.sub (.c rfl<| .c rfl<| .c rfl<| .c rfl<| .c rfl<| .c rfl<| .c rfl<| .c rfl<| .c rfl<| .c rfl<| .c rfl<| .c rfl<| .c rfl<| .c rfl<| .n _) (.c rfl<| .c rfl<| .c rfl<| .c rfl<| .n _)) ?_
          refine AWP.loopM (S := fun x_165 : Int × Int × Int => ⟨[(1,.rd β3 a1.length (a1.flatMap (encI .i64))),(2,.rd β4 a2.length (a2.flatMap (encI .i64))),(3,.own 1 1 0 x_155.2.2.1.length),(4,.ptr 2 0),(9,.own 4 1 0 x_155.2.2.2.1.length),(10,.own 5 1 0 x_155.2.2.2.2.length),(11,.sc (.int .i64 x_155.1)),(12,.sc (.int .i64 x_165.1)),(13,.sc (.int .i64 x_165.2.1)),(36,.sc (.int .i64 t36_6)),(37,.sc (.int .i64 x_155.2.1)),(39,.rd β3 a1.length (a1.flatMap (encI .i64))),(40,.sc (.int .i64 (a1.length : Int))),(41,.sc (.int .i64 x_165.2.2))],[(1,⟨3,true,x_155.2.2.1.flatMap (encI .i64)⟩),(2,⟨32,false,[.rd β1 a0.Points.length (a0.Points.flatMap encR45),.rd β2 a0.Before.length (a0.Before.flatMap encR93)]⟩),(4,⟨3,true,x_155.2.2.2.1.flatMap (encI .i64)⟩),(5,⟨4,true,x_155.2.2.2.2.flatMap encB⟩)]⟩) (x := ((-1 : Int),(0 : Int),(0 : Int))) (fun nx_166 x_165 h => ?_) h
          unfold m82_L6 at h
          refine AWP.seq ?_
          refine AWP.region (.cons (.lss (lt1 rfl) (.tmp rfl) (.tmp rfl))<| ARun.nil _ _ _) ?_
          refine AWP.vc (s' := ⟨[(1,.rd β3 a1.length (a1.flatMap (encI .i64))),(2,.rd β4 a2.length (a2.flatMap (encI .i64))),(3,.own 1 1 0 x_155.2.2.1.length),(4,.ptr 2 0),(9,.own 4 1 0 x_155.2.2.2.1.length),(10,.own 5 1 0 x_155.2.2.2.2.length),(11,.sc (.int .i64 x_155.1)),(12,.sc (.int .i64 x_165.1)),(13,.sc (.int .i64 x_165.2.1)),(36,.sc (.int .i64 t36_6)),(37,.sc (.int .i64 x_155.2.1)),(39,.rd β3 a1.length (a1.flatMap (encI .i64))),(40,.sc (.int .i64 (a1.length : Int))),(41,.sc (.int .i64 x_165.2.2)),(42,.sc (.bool (decide (x_165.2.2 < (a1.length : Int)))))],[(1,⟨3,true,x_155.2.2.1.flatMap (encI .i64)⟩),(2,⟨32,false,[.rd β1 a0.Points.length (a0.Points.flatMap encR45),.rd β2 a0.Before.length (a0.Before.flatMap encR93)]⟩),(4,⟨3,true,x_155.2.2.2.1.flatMap (encI .i64)⟩),(5,⟨4,true,x_155.2.2.2.2.flatMap encB⟩)]⟩) (VC.sub (.c rfl<| .c rfl<| .c rfl<| .c rfl<| .c rfl<| .c rfl<| .c rfl<| .c rfl<| .c rfl<| .c rfl<| .c rfl<| .c rfl<| .c rfl<| .c rfl<| .c rfl<| .n _) (.c rfl<| .c rfl<| .c rfl<| .c rfl<| .n _)) ?_
          refine AWP.seq ?_
          refine AWP.cond (.tmp rfl) (fun hc => ?_) (fun hc => ?_)
          · have h := iteT hc h
            refine AWP.skip ?_
            refine AWP.seq ?_
            refine AWP.block ?_
            refine AWP.seq ?_
            obtain ⟨y_167,hy_167,h⟩ := bindS h
            refine AWP.region (.cons (.move (lt1 rfl) (.tmp rfl))<| .cons (.indexRd (enc := (encI .i64)) (lt1 rfl) (.tmp rfl) (.tmp rfl) Try.underlying28 sz3 (encI_len .i64) rfl hy_167)<| .cons (.loadR (v := .sc (.int .i64 y_167)) (lt1 rfl) (.tmp rfl) one3 rfl)<| .cons (.assign (lt1 rfl) (.tmp rfl))<| .cons (.assign (lt1 rfl) (.tmp rfl))<| ARun.nil _ _ _) ?_
            refine AWP.vc (s' := ⟨[(1,.rd β3 a1.length (a1.flatMap (encI .i64))),(2,.rd β4 a2.length (a2.flatMap (encI .i64))),(3,.own 1 1 0 x_155.2.2.1.length),(4,.ptr 2 0),(9,.own 4 1 0 x_155.2.2.2.1.length),(10,.own 5 1 0 x_155.2.2.2.2.length),(11,.sc (.int .i64 x_155.1)),(12,.sc (.int .i64 x_165.1)),(13,.sc (.int .i64 x_165.2.1)),(36,.sc (.int .i64 t36_6)),(37,.sc (.int .i64 x_155.2.1)),(39,.rd β3 a1.length (a1.flatMap (encI .i64))),(40,.sc (.int .i64 (a1.length : Int))),(41,.sc (.int .i64 x_165.2.2)),(14,.sc (.int .i64 x_165.2.2)),(15,.sc (.int .i64 y_167))],[(1,⟨3,true,x_155.2.2.1.flatMap (encI .i64)⟩),(2,⟨32,false,[.rd β1 a0.Points.length (a0.Points.flatMap encR45),.rd β2 a0.Before.length (a0.Before.flatMap encR93)]⟩),(4,⟨3,true,x_155.2.2.2.1.flatMap (encI .i64)⟩),(5,⟨4,true,x_155.2.2.2.2.flatMap encB⟩)]⟩) (VC.sub (.c rfl<| .c rfl<| .c rfl<| .c rfl<| .c rfl<| .c rfl<| .c rfl<| .c rfl<| .c rfl<| .c rfl<| .c rfl<| .c rfl<| .c rfl<| .c rfl<| .c rfl<| .c rfl<| .n _) (.c rfl<| .c rfl<| .c rfl<| .c rfl<| .n _)) ?_
            refine AWP.seq ?_
            obtain ⟨y_168,hy_168,h⟩ := bindS h
            obtain ⟨y_169,hy_169,h⟩ := bindS h
            refine AWP.draw (s' := ⟨[(1,.rd β3 a1.length (a1.flatMap (encI .i64))),(2,.rd β4 a2.length (a2.flatMap (encI .i64))),(3,.own 1 1 0 x_155.2.2.1.length),(4,.ptr 2 0),(9,.own 4 1 0 x_155.2.2.2.1.length),(10,.own 5 1 0 x_155.2.2.2.2.length),(11,.sc (.int .i64 x_155.1)),(12,.sc (.int .i64 x_165.1)),(13,.sc (.int .i64 x_165.2.1)),(14,.sc (.int .i64 x_165.2.2)),(16,.sc (.int .i64 y_169)),(36,.sc (.int .i64 t36_6)),(37,.sc (.int .i64 x_155.2.1)),(39,.rd β3 a1.length (a1.flatMap (encI .i64))),(40,.sc (.int .i64 (a1.length : Int))),(41,.sc (.int .i64 x_165.2.2))],[(1,⟨3,true,x_155.2.2.1.flatMap (encI .i64)⟩),(2,⟨32,false,[.rd β1 a0.Points.length (a0.Points.flatMap encR45),.rd β2 a0.Before.length (a0.Before.flatMap encR93)]⟩),(4,⟨3,true,x_155.2.2.2.1.flatMap (encI .i64)⟩),(5,⟨4,true,x_155.2.2.2.2.flatMap encB⟩)]⟩) mixed [⟨1,.rd β3 a1.length (a1.flatMap (encI .i64)),none,[]⟩,⟨2,.rd β4 a2.length (a2.flatMap (encI .i64)),none,[]⟩,⟨3,.own 1 1 0 x_155.2.2.1.length,none,[]⟩,⟨4,.ptr 2 0,none,[]⟩,⟨9,.own 4 1 0 x_155.2.2.2.1.length,none,[]⟩,⟨10,.own 5 1 0 x_155.2.2.2.2.length,none,[]⟩,⟨11,.sc (.int .i64 x_155.1),none,[]⟩,⟨12,.sc (.int .i64 x_165.1),none,[]⟩,⟨13,.sc (.int .i64 x_165.2.1),none,[]⟩,⟨14,.sc (.int .i64 x_165.2.2),none,[]⟩,⟨15,.sc (.int .i64 y_167),none,[]⟩,⟨36,.sc (.int .i64 t36_6),none,[]⟩,⟨37,.sc (.int .i64 x_155.2.1),none,[]⟩,⟨39,.rd β3 a1.length (a1.flatMap (encI .i64)),none,[]⟩,⟨40,.sc (.int .i64 (a1.length : Int)),none,[]⟩,⟨41,.sc (.int .i64 x_165.2.2),none,[]⟩,⟨46,.agg [.rd β1 a0.Points.length (a0.Points.flatMap encR45),.rd β2 a0.Before.length (a0.Before.flatMap encR93)],some 0,[]⟩,⟨47,.sc (.int .i64 y_167),some 1,[]⟩,⟨48,.own 4 1 0 x_155.2.2.2.1.length,some 2,[]⟩,⟨49,.sc (.int .i64 x_165.2.2),some 3,[]⟩,⟨50,.ptr 4 (0 + (x_165.2.2).toNat * 1),some 4,[]⟩,⟨51,.sc (.int .i64 y_168),some 5,[]⟩,⟨52,.rd β4 a2.length (a2.flatMap (encI .i64)),some 6,[]⟩,⟨53,.sc (.int .i64 y_169),some 7,[]⟩,⟨16,.sc (.int .i64 y_169),some 8,[]⟩] [⟨[3],0,0,some (46,.agg [.rd β1 a0.Points.length (a0.Points.flatMap encR45),.rd β2 a0.Before.length (a0.Before.flatMap encR93)]),[]⟩,⟨[10],0,0,some (47,.sc (.int .i64 y_167)),[]⟩,⟨[4],0,0,some (48,.own 4 1 0 x_155.2.2.2.1.length),[]⟩,⟨[9],0,0,some (49,.sc (.int .i64 x_165.2.2)),[]⟩,⟨[18,19],0,0,some (50,.ptr 4 (0 + (x_165.2.2).toNat * 1)),[]⟩,⟨[20],0,0,some (51,.sc (.int .i64 y_168)),[]⟩,⟨[1],0,0,some (52,.rd β4 a2.length (a2.flatMap (encI .i64))),[]⟩,⟨[16,17,21,22],0,0,some (53,.sc (.int .i64 y_169)),[]⟩,⟨[23],0,0,some (16,.sc (.int .i64 y_169)),[]⟩] [] [[(1,⟨3,true,x_155.2.2.1.flatMap (encI .i64)⟩),(2,⟨32,false,[.rd β1 a0.Points.length (a0.Points.flatMap encR45),.rd β2 a0.Before.length (a0.Before.flatMap encR93)]⟩),(4,⟨3,true,x_155.2.2.2.1.flatMap (encI .i64)⟩),(5,⟨4,true,x_155.2.2.2.2.flatMap encB⟩)]] [[],[],[],[],[2,3],[2,3,4],[],[0,1,2,3,4,5,6],[0,1,2,3,4,5,6,7]] (by kernel_rfl) (by kernel_rfl) (BornL.ok (.o<| .o<| .o<| .o<| .o<| .o<| .o<| .o<| .o<| .o<| .o<| .o<| .o<| .o<| .o<| .o<| .b rfl rfl<| .b rfl rfl<| .b rfl rfl<| .b rfl rfl<| .b rfl rfl<| .b rfl rfl<| .b rfl rfl<| .b rfl rfl<| .b rfl rfl<| .n)) (BaseL.ok (.o rfl<| .o rfl<| .o rfl<| .o rfl<| .o rfl<| .o rfl<| .o rfl<| .o rfl<| .o rfl<| .o rfl<| .o rfl<| .o rfl<| .o rfl<| .o rfl<| .o rfl<| .o rfl<| .b<| .b<| .b<| .b<| .b<| .b<| .b<| .b<| .b<| .n)) rfl (by decide) (allLt rfl) (.read rfl (.c (.put (fun E hE => .loadPA (lt1 rfl) (.tmp (hE.at (k := 0) rfl)) agg32 rfl rfl rfl rfl)) .n)<| .pure rfl (fun H => .put (fun E hE => .move (lt1 rfl) (.tmp (hE.at (k := 0) rfl))))<| .read rfl (.c (.put (fun E hE => .move (lt1 rfl) (.tmp (hE.at (k := 0) rfl)))) .n)<| .pure rfl (fun H => .put (fun E hE => .move (lt1 rfl) (.tmp (hE.at (k := 0) rfl))))<| .read rfl (.c (.put (fun E hE => .idxOwn (lt1 rfl) (.tmp (hE.at (k := 0) rfl)) (.tmp (hE.at (k := 1) rfl)) Try.underlying28 sz3 rfl hy_168)) .n)<| .read rfl (.c (.put (fun E hE => .loadP (lt1 rfl) (.tmp (hE.at (k := 0) rfl)) one3 rfl (cell_at1 (encI_len .i64) hy_168) rfl)) .n)<| .pure rfl (fun H => .put (fun E hE => .move (lt1 rfl) (.tmp (hE.at (k := 0) rfl))))<| .pure rfl (fun H => .put (fun E hE => .call0 (bw := false) (lt1 rfl) (c85 (β1 := β1) (β2 := β2) (β3 := β4) n (R24.mk a0.Points a0.Before) y_167 y_168 a2 hy_169) (.cons (.tmp (hE.at (k := 0) rfl)) (.ren rfl) (.cons (.tmp (hE.at (k := 1) rfl)) (.ren rfl) (.cons (.tmp (hE.at (k := 2) rfl)) (.ren rfl) (.cons (.tmp (hE.at (k := 3) rfl)) (.ren rfl) (.nil))))) rfl))<| .pure rfl (fun H => .put (fun E hE => .assign (lt1 rfl) (.tmp (hE.at (k := 0) rfl))))<| .nil _) (fun E hE => .c (DInv.at hE (k := 0) rfl rfl rfl)<| .c (DInv.at hE (k := 1) rfl rfl rfl)<| .c (DInv.at hE (k := 2) rfl rfl rfl)<| .c (DInv.at hE (k := 3) rfl rfl rfl)<| .c (DInv.at hE (k := 4) rfl rfl rfl)<| .c (DInv.at hE (k := 5) rfl rfl rfl)<| .c (DInv.at hE (k := 6) rfl rfl rfl)<| .c (DInv.at hE (k := 7) rfl rfl rfl)<| .c (DInv.at hE (k := 8) rfl rfl rfl)<| .c (DInv.at hE (k := 9) rfl rfl rfl)<| .c (DInv.at hE (k := 24) rfl rfl rfl)<| .c (DInv.at hE (k := 11) rfl rfl rfl)<| .c (DInv.at hE (k := 12) rfl rfl rfl)<| .c (DInv.at hE (k := 13) rfl rfl rfl)<| .c (DInv.at hE (k := 14) rfl rfl rfl)<| .c (DInv.at hE (k := 15) rfl rfl rfl)<| .n _) rfl ?_
            refine AWP.vc (s' := ⟨[(1,.rd β3 a1.length (a1.flatMap (encI .i64))),(2,.rd β4 a2.length (a2.flatMap (encI .i64))),(3,.own 1 1 0 x_155.2.2.1.length),(4,.ptr 2 0),(9,.own 4 1 0 x_155.2.2.2.1.length),(10,.own 5 1 0 x_155.2.2.2.2.length),(11,.sc (.int .i64 x_155.1)),(12,.sc (.int .i64 x_165.1)),(13,.sc (.int .i64 x_165.2.1)),(36,.sc (.int .i64 t36_6)),(37,.sc (.int .i64 x_155.2.1)),(39,.rd β3 a1.length (a1.flatMap (encI .i64))),(40,.sc (.int .i64 (a1.length : Int))),(41,.sc (.int .i64 x_165.2.2)),(14,.sc (.int .i64 x_165.2.2)),(16,.sc (.int .i64 y_169))],[(1,⟨3,true,x_155.2.2.1.flatMap (encI .i64)⟩),(2,⟨32,false,[.rd β1 a0.Points.length (a0.Points.flatMap encR45),.rd β2 a0.Before.length (a0.Before.flatMap encR93)]⟩),(4,⟨3,true,x_155.2.2.2.1.flatMap (encI .i64)⟩),(5,⟨4,true,x_155.2.2.2.2.flatMap encB⟩)]⟩) (VC.sub (.c rfl<| .c rfl<| .c rfl<| .c rfl<| .c rfl<| .c rfl<| .c rfl<| .c rfl<| .c rfl<| .c rfl<| .c rfl<| .c rfl<| .c rfl<| .c rfl<| .c rfl<| .c rfl<| .n _) (.c rfl<| .c rfl<| .c rfl<| .c rfl<| .n _)) ?_
            refine AWP.seq ?_
            obtain ⟨y_170,hy_170,h⟩ := bindS h
            refine AWP.region (.cons (.move (lt1 rfl) (.tmp rfl))<| .cons (.move (lt1 rfl) (.tmp rfl))<| .cons (.idxOwn (lt1 rfl) (.tmp rfl) (.tmp rfl) Try.underlying130 sz4 rfl hy_170)<| .cons (.loadP (lt1 rfl) (.tmp rfl) one4 rfl (cell_at1 encB_len hy_170) rfl)<| .cons (.not (lt1 rfl) (.tmp rfl))<| .cons (.move (lt1 rfl) (.tmp rfl))<| .guard (j := 5) (dj := 59) rfl (lt1 rfl) rfl (lt1 rfl) (fun hg => .move (lt1 rfl) (.tmp rfl))<| .guard (j := 5) (dj := 59) rfl (lt1 rfl) rfl (lt1 rfl) (fun hg => .lss (lt1 rfl) (.gd hg (.tmp rfl)) (.const _ _ _))<| .guard (j := 5) (dj := 59) rfl (lt1 rfl) rfl (lt1 rfl) (fun hg => .move (lt1 rfl) (.gd hg (.tmp rfl)))<| .guard2 (j := 8) (dj := 62) rfl (lt1 rfl) rfl (lt1 rfl) (fun hg => .move (lt1 rfl) (.tmp rfl))<| .guard2 (j := 8) (dj := 62) rfl (lt1 rfl) rfl (lt1 rfl) (fun hg => .move (lt1 rfl) (.tmp rfl))<| .guard2 (j := 8) (dj := 62) rfl (lt1 rfl) rfl (lt1 rfl) (fun hg => .lss (lt1 rfl) (.gd hg (.tmp rfl)) (.gd hg (.tmp rfl)))<| .guard (j := 5) (dj := 59) rfl (lt1 rfl) rfl (lt1 rfl) (fun hg => .pickOr (lt1 rfl) (.gd hg (.tmp rfl)) (.const _ _ _) (.gdAnd hg (.tmp rfl)))<| .cons (.pickAnd (lt1 rfl) (.tmp rfl) (.tmp rfl) (.const _ _ _))<| ARun.nil _ _ _) ?_
            refine AWP.vc (s' := ⟨[(1,.rd β3 a1.length (a1.flatMap (encI .i64))),(2,.rd β4 a2.length (a2.flatMap (encI .i64))),(3,.own 1 1 0 x_155.2.2.1.length),(4,.ptr 2 0),(9,.own 4 1 0 x_155.2.2.2.1.length),(10,.own 5 1 0 x_155.2.2.2.2.length),(11,.sc (.int .i64 x_155.1)),(12,.sc (.int .i64 x_165.1)),(13,.sc (.int .i64 x_165.2.1)),(36,.sc (.int .i64 t36_6)),(37,.sc (.int .i64 x_155.2.1)),(39,.rd β3 a1.length (a1.flatMap (encI .i64))),(40,.sc (.int .i64 (a1.length : Int))),(41,.sc (.int .i64 x_165.2.2)),(14,.sc (.int .i64 x_165.2.2)),(16,.sc (.int .i64 y_169)),(67,.sc (.bool ((!y_170) && ((decide (x_165.1 < (0 : Int))) || (decide (y_169 < x_165.2.1))))))],[(1,⟨3,true,x_155.2.2.1.flatMap (encI .i64)⟩),(2,⟨32,false,[.rd β1 a0.Points.length (a0.Points.flatMap encR45),.rd β2 a0.Before.length (a0.Before.flatMap encR93)]⟩),(4,⟨3,true,x_155.2.2.2.1.flatMap (encI .i64)⟩),(5,⟨4,true,x_155.2.2.2.2.flatMap encB⟩)]⟩) (VC.sub (.c rfl<| .c rfl<| .c rfl<| .c rfl<| .c rfl<| .c rfl<| .c rfl<| .c rfl<| .c rfl<| .c rfl<| .c rfl<| .c rfl<| .c rfl<| .c rfl<| .c rfl<| .c rfl<| .c rfl<| .n _) (.c rfl<| .c rfl<| .c rfl<| .c rfl<| .n _)) ?_
            refine AWP.join' (S := fun p_171 : Int × Int => ⟨[(1,.rd β3 a1.length (a1.flatMap (encI .i64))),(2,.rd β4 a2.length (a2.flatMap (encI .i64))),(3,.own 1 1 0 x_155.2.2.1.length),(4,.ptr 2 0),(9,.own 4 1 0 x_155.2.2.2.1.length),(10,.own 5 1 0 x_155.2.2.2.2.length),(11,.sc (.int .i64 x_155.1)),(12,.sc (.int .i64 p_171.1)),(13,.sc (.int .i64 p_171.2)),(36,.sc (.int .i64 t36_6)),(37,.sc (.int .i64 x_155.2.1)),(39,.rd β3 a1.length (a1.flatMap (encI .i64))),(40,.sc (.int .i64 (a1.length : Int))),(41,.sc (.int .i64 x_165.2.2))],[(1,⟨3,true,x_155.2.2.1.flatMap (encI .i64)⟩),(2,⟨32,false,[.rd β1 a0.Points.length (a0.Points.flatMap encR45),.rd β2 a0.Before.length (a0.Before.flatMap encR93)]⟩),(4,⟨3,true,x_155.2.2.2.1.flatMap (encI .i64)⟩),(5,⟨4,true,x_155.2.2.2.2.flatMap encB⟩)]⟩) h (fun p_171 h => ?_) (fun k_172 h => ?_)
            · obtain ⟨t41_173,ht41_173,h⟩ := letS h
              refine AWP.region (.cons (.add (lt1 rfl) (.tmp rfl) (.const _ _ _))<| .cons (.move (lt1 rfl) (.tmp rfl))<| ARun.nil _ _ _) ?_
              exact endJ (p_171.1,p_171.2,t41_173) h (by subst ht41_173; exact VC.sub (.c rfl<| .c rfl<| .c rfl<| .c rfl<| .c rfl<| .c rfl<| .c rfl<| .c rfl<| .c rfl<| .c rfl<| .c rfl<| .c rfl<| .c rfl<| .c rfl<| .n _) (.c rfl<| .c rfl<| .c rfl<| .c rfl<| .n _))
            · refine AWP.cond (.tmp rfl) (fun hc => ?_) (fun hc => ?_)
              · have h := iteT hc h
                refine AWP.region (.cons (.move (lt1 rfl) (.tmp rfl))<| .cons (.move (lt1 rfl) (.tmp rfl))<| .cons (.assign (lt1 rfl) (.tmp rfl))<| .cons (.assign (lt1 rfl) (.tmp rfl))<| ARun.nil _ _ _) ?_
                exact endJ (x_165.2.2,y_169) h (VC.sub (.c rfl<| .c rfl<| .c rfl<| .c rfl<| .c rfl<| .c rfl<| .c rfl<| .c rfl<| .c rfl<| .c rfl<| .c rfl<| .c rfl<| .c rfl<| .c rfl<| .n _) (.c rfl<| .c rfl<| .c rfl<| .c rfl<| .n _))
              · have h := iteF hc h
                refine AWP.skip ?_
                exact endJ (x_165.1,x_165.2.1) h (VC.sub (.c rfl<| .c rfl<| .c rfl<| .c rfl<| .c rfl<| .c rfl<| .c rfl<| .c rfl<| .c rfl<| .c rfl<| .c rfl<| .c rfl<| .c rfl<| .c rfl<| .n _) (.c rfl<| .c rfl<| .c rfl<| .c rfl<| .n _))
          · have h := iteF hc h
            refine AWP.exit ?_
            exact endJ (x_165.1,x_165.2.1) h (VC.sub (.c rfl<| .c rfl<| .c rfl<| .c rfl<| .c rfl<| .c rfl<| .c rfl<| .c rfl<| .c rfl<| .c rfl<| .c rfl<| .n _) (.c rfl<| .c rfl<| .c rfl<| .c rfl<| .n _))
      · have h := iteF hc h
        refine AWP.exit ?_
        exact endJ (x_155.1,x_155.2.2.1) h (VC.sub (.c rfl<| .n _) (.c rfl<| .n _))
theorem c84 {β1 : Bool} {β2 : Bool} {β3 : Bool} (n : Nat) (a0 : Int) (a1 : Int) (a2_b0 : (List R45)) (a2_b1 : (List R93)) (a3_b0 : (List Int)) {r : Int} (h : m84 n a0 a1 a2_b0 a2_b1 a3_b0 = some r) : Spec Try.prog 84 [1,2] [.sc (.int .i64 a0),.sc (.int .i64 a1),.ptr 1 0,.ptr 2 0] [(1,⟨32,false,[.rd β1 a2_b0.length (a2_b0.flatMap encR45),.rd β2 a2_b1.length (a2_b1.flatMap encR93)]⟩),(2,⟨28,false,[.rd β3 a3_b0.length (a3_b0.flatMap (encI .i64))]⟩)] (.sc (.int .i64 r)) [(1,⟨32,false,[.rd β1 a2_b0.length (a2_b0.flatMap encR45),.rd β2 a2_b1.length (a2_b1.flatMap encR93)]⟩),(2,⟨28,false,[.rd β3 a3_b0.length (a3_b0.flatMap (encI .i64))]⟩)] := by
  refine Spec.of (fn := Try.f84) Try.func84 Try.ntmps84 rfl rfl (le1 rfl) (fun w0 Zs Zb T0 ι0 => ?_)
  unfold m84 at h
  refine AWP.seq ?_
  refine AWP.region (.cons (.assign (lt1 rfl) (.const _ _ _))<| ARun.nil _ _ _) ?_
  refine AWP.vc (s' := ⟨[(0,.sc (.int .i64 a0)),(1,.sc (.int .i64 a1)),(2,.ptr 1 0),(3,.ptr 2 0)],[(1,⟨32,false,[.rd β1 a2_b0.length (a2_b0.flatMap encR45),.rd β2 a2_b1.length (a2_b1.flatMap encR93)]⟩),(2,⟨28,false,[.rd β3 a3_b0.length (a3_b0.flatMap (encI .i64))]⟩)]⟩) (VC.sub (.c rfl<| .c rfl<| .c rfl<| .c rfl<| .n _) (.c rfl<| .c rfl<| .n _)) ?_
  refine AWP.seq ?_
  obtain ⟨y_1,hy_1,h⟩ := bindS h
  obtain ⟨y_2,hy_2,h⟩ := bindS h
  obtain ⟨t6_3,ht6_3,h⟩ := letS h
  refine AWP.draw (s' := ⟨[(6,.sc (.int .i64 (IntKind.wrap .i64 (y_1 - y_2))))],[(1,⟨32,false,[.rd β1 a2_b0.length (a2_b0.flatMap encR45),.rd β2 a2_b1.length (a2_b1.flatMap encR93)]⟩),(2,⟨28,false,[.rd β3 a3_b0.length (a3_b0.flatMap (encI .i64))]⟩)]⟩) mixed [⟨0,.sc (.int .i64 a0),none,[]⟩,⟨1,.sc (.int .i64 a1),none,[]⟩,⟨2,.ptr 1 0,none,[]⟩,⟨3,.ptr 2 0,none,[]⟩,⟨7,.agg [.rd β1 a2_b0.length (a2_b0.flatMap encR45),.rd β2 a2_b1.length (a2_b1.flatMap encR93)],some 0,[]⟩,⟨8,.sc (.int .i64 a0),some 1,[]⟩,⟨9,.rd β3 a3_b0.length (a3_b0.flatMap (encI .i64)),some 2,[]⟩,⟨10,.sc (.int .i64 y_1),some 3,[]⟩,⟨11,.agg [.rd β1 a2_b0.length (a2_b0.flatMap encR45),.rd β2 a2_b1.length (a2_b1.flatMap encR93)],some 4,[]⟩,⟨12,.sc (.int .i64 a1),some 5,[]⟩,⟨13,.rd β3 a3_b0.length (a3_b0.flatMap (encI .i64)),some 6,[]⟩,⟨14,.sc (.int .i64 y_2),some 7,[]⟩,⟨15,.sc (.int .i64 (IntKind.wrap .i64 (y_1 - y_2))),some 8,[]⟩,⟨6,.sc (.int .i64 (IntKind.wrap .i64 (y_1 - y_2))),some 9,[]⟩] [⟨[2],0,0,some (7,.agg [.rd β1 a2_b0.length (a2_b0.flatMap encR45),.rd β2 a2_b1.length (a2_b1.flatMap encR93)]),[]⟩,⟨[0],0,0,some (8,.sc (.int .i64 a0)),[]⟩,⟨[3],0,0,some (9,.rd β3 a3_b0.length (a3_b0.flatMap (encI .i64))),[]⟩,⟨[4,5,6],0,0,some (10,.sc (.int .i64 y_1)),[]⟩,⟨[2],0,0,some (11,.agg [.rd β1 a2_b0.length (a2_b0.flatMap encR45),.rd β2 a2_b1.length (a2_b1.flatMap encR93)]),[]⟩,⟨[1],0,0,some (12,.sc (.int .i64 a1)),[]⟩,⟨[3],0,0,some (13,.rd β3 a3_b0.length (a3_b0.flatMap (encI .i64))),[]⟩,⟨[8,9,10],0,0,some (14,.sc (.int .i64 y_2)),[]⟩,⟨[7,11],0,0,some (15,.sc (.int .i64 (IntKind.wrap .i64 (y_1 - y_2)))),[]⟩,⟨[12],0,0,some (6,.sc (.int .i64 (IntKind.wrap .i64 (y_1 - y_2)))),[]⟩] [] [[(1,⟨32,false,[.rd β1 a2_b0.length (a2_b0.flatMap encR45),.rd β2 a2_b1.length (a2_b1.flatMap encR93)]⟩),(2,⟨28,false,[.rd β3 a3_b0.length (a3_b0.flatMap (encI .i64))]⟩)]] [[],[],[],[0,1,2],[],[],[],[0,1,2,3,4,5,6],[0,1,2,3,4,5,6,7],[0,1,2,3,4,5,6,7,8]] (by kernel_rfl) (by kernel_rfl) (BornL.ok (.o<| .o<| .o<| .o<| .b rfl rfl<| .b rfl rfl<| .b rfl rfl<| .b rfl rfl<| .b rfl rfl<| .b rfl rfl<| .b rfl rfl<| .b rfl rfl<| .b rfl rfl<| .b rfl rfl<| .n)) (BaseL.ok (.o rfl<| .o rfl<| .o rfl<| .o rfl<| .b<| .b<| .b<| .b<| .b<| .b<| .b<| .b<| .b<| .b<| .n)) rfl (by decide) (allLt rfl) (.read rfl (.c (.put (fun E hE => .loadPA (lt1 rfl) (.tmp (hE.at (k := 0) rfl)) agg32 rfl rfl rfl rfl)) .n)<| .pure rfl (fun H => .put (fun E hE => .move (lt1 rfl) (.tmp (hE.at (k := 0) rfl))))<| .read rfl (.c (.put (fun E hE => .loadP (lt1 rfl) (.tmp (hE.at (k := 0) rfl)) one28 rfl rfl rfl)) .n)<| .pure rfl (fun H => .put (fun E hE => .call0 (bw := false) (lt1 rfl) (c85 (β1 := β1) (β2 := β2) (β3 := β3) n (R24.mk a2_b0 a2_b1) (0 : Int) a0 a3_b0 hy_1) (.cons (.tmp (hE.at (k := 0) rfl)) (.ren rfl) (.cons (.const _ _ _) (.ren rfl) (.cons (.tmp (hE.at (k := 1) rfl)) (.ren rfl) (.cons (.tmp (hE.at (k := 2) rfl)) (.ren rfl) (.nil))))) rfl))<| .read rfl (.c (.put (fun E hE => .loadPA (lt1 rfl) (.tmp (hE.at (k := 0) rfl)) agg32 rfl rfl rfl rfl)) .n)<| .pure rfl (fun H => .put (fun E hE => .move (lt1 rfl) (.tmp (hE.at (k := 0) rfl))))<| .read rfl (.c (.put (fun E hE => .loadP (lt1 rfl) (.tmp (hE.at (k := 0) rfl)) one28 rfl rfl rfl)) .n)<| .pure rfl (fun H => .put (fun E hE => .call0 (bw := false) (lt1 rfl) (c85 (β1 := β1) (β2 := β2) (β3 := β3) n (R24.mk a2_b0 a2_b1) (0 : Int) a1 a3_b0 hy_2) (.cons (.tmp (hE.at (k := 0) rfl)) (.ren rfl) (.cons (.const _ _ _) (.ren rfl) (.cons (.tmp (hE.at (k := 1) rfl)) (.ren rfl) (.cons (.tmp (hE.at (k := 2) rfl)) (.ren rfl) (.nil))))) rfl))<| .pure rfl (fun H => .put (fun E hE => .sub (lt1 rfl) (.tmp (hE.at (k := 0) rfl)) (.tmp (hE.at (k := 1) rfl))))<| .pure rfl (fun H => .put (fun E hE => .assign (lt1 rfl) (.tmp (hE.at (k := 0) rfl))))<| .nil _) (fun E hE => .c (DInv.at hE (k := 13) rfl rfl rfl)<| .n _) rfl ?_
  refine AWP.ret ?_
  obtain rfl := Option.some.inj h
  refine retJ (Res.vc (s' := ⟨[(6,.sc (.int .i64 t6_3))],[(1,⟨32,false,[.rd β1 a2_b0.length (a2_b0.flatMap encR45),.rd β2 a2_b1.length (a2_b1.flatMap encR93)]⟩),(2,⟨28,false,[.rd β3 a3_b0.length (a3_b0.flatMap (encI .i64))]⟩)]⟩) (by subst ht6_3; exact VC.sub (.c rfl<| .n _) (.c rfl<| .c rfl<| .n _)) ?_)
  refine Res.sub (H := [(1,⟨32,false,[.rd β1 a2_b0.length (a2_b0.flatMap encR45),.rd β2 a2_b1.length (a2_b1.flatMap encR93)]⟩),(2,⟨28,false,[.rd β3 a3_b0.length (a3_b0.flatMap (encI .i64))]⟩)]) (.c rfl<| .c rfl<| .n _) ?_
  exact Res.of rfl (.cons (.tmp rfl) (.nil)) rfl rfl
theorem c111 {β1 : Bool} {β2 : Bool} {β3 : Bool} (n : Nat) (a0_b : (List Int)) (a1 : Int) (a2 : Int) (a3_0_b0 : (List R45)) (a3_0_b1 : (List R93)) (a3_1_b0 : (List Int)) {r : (List Int)} (h : m111 n a0_b a1 a2 a3_0_b0 a3_0_b1 a3_1_b0 = some r) : Spec Try.prog 111 [1,2,3] [.own 1 1 0 a0_b.length,.sc (.int .i64 a1),.sc (.int .i64 a2),.clo (.func 84) [] [.ptr 2 0,.ptr 3 0]] [(1,⟨3,true,a0_b.flatMap (encI .i64)⟩),(2,⟨32,false,[.rd β1 a3_0_b0.length (a3_0_b0.flatMap encR45),.rd β2 a3_0_b1.length (a3_0_b1.flatMap encR93)]⟩),(3,⟨28,false,[.rd β3 a3_1_b0.length (a3_1_b0.flatMap (encI .i64))]⟩)] (.tup []) [(1,⟨3,true,r.flatMap (encI .i64)⟩),(2,⟨32,false,[.rd β1 a3_0_b0.length (a3_0_b0.flatMap encR45),.rd β2 a3_0_b1.length (a3_0_b1.flatMap encR93)]⟩),(3,⟨28,false,[.rd β3 a3_1_b0.length (a3_1_b0.flatMap (encI .i64))]⟩)] := by
  refine Spec.of (fn := Try.f111) Try.func111 Try.ntmps111 rfl rfl (le1 rfl) (fun w0 Zs Zb T0 ι0 => ?_)
  unfold m111 at h
  refine AWP.seq ?_
  obtain ⟨t8_1,ht8_1,h⟩ := letS h
  refine AWP.region (.cons (.move (lt1 rfl) (.tmp rfl))<| .cons (.add (lt1 rfl) (.tmp rfl) (.const _ _ _))<| .cons (.assign (lt1 rfl) (.tmp rfl))<| ARun.nil _ _ _) ?_
  refine AWP.vc (s' := ⟨[(0,.own 1 1 0 a0_b.length),(1,.sc (.int .i64 a1)),(2,.sc (.int .i64 a2)),(3,.clo (.func 84) [] [.ptr 2 0,.ptr 3 0]),(8,.sc (.int .i64 t8_1))],[(1,⟨3,true,a0_b.flatMap (encI .i64)⟩),(2,⟨32,false,[.rd β1 a3_0_b0.length (a3_0_b0.flatMap encR45),.rd β2 a3_0_b1.length (a3_0_b1.flatMap encR93)]⟩),(3,⟨28,false,[.rd β3 a3_1_b0.length (a3_1_b0.flatMap (encI .i64))]⟩)]⟩) (by subst ht8_1; exact VC.sub (.c rfl<| .c rfl<| .c rfl<| .c rfl<| .c rfl<| .n _) (.c rfl<| .c rfl<| .c rfl<| .n _)) ?_
  refine AWP.joinB' (S := fun p_117 : (List Int) => ⟨[],[(1,⟨3,true,p_117.flatMap (encI .i64)⟩),(2,⟨32,false,[.rd β1 a3_0_b0.length (a3_0_b0.flatMap encR45),.rd β2 a3_0_b1.length (a3_0_b1.flatMap encR93)]⟩),(3,⟨28,false,[.rd β3 a3_1_b0.length (a3_1_b0.flatMap (encI .i64))]⟩)]⟩) h (fun p_117 h => ?_) (fun k_118 h => ?_)
  · obtain rfl := Option.some.inj h
    refine norJ (Res.vc (s' := ⟨[],[(1,⟨3,true,p_117.flatMap (encI .i64)⟩),(2,⟨32,false,[.rd β1 a3_0_b0.length (a3_0_b0.flatMap encR45),.rd β2 a3_0_b1.length (a3_0_b1.flatMap encR93)]⟩),(3,⟨28,false,[.rd β3 a3_1_b0.length (a3_1_b0.flatMap (encI .i64))]⟩)]⟩) (VC.sub (.n _) (.c rfl<| .c rfl<| .c rfl<| .n _)) ?_)
    refine Res.sub (H := [(1,⟨3,true,p_117.flatMap (encI .i64)⟩),(2,⟨32,false,[.rd β1 a3_0_b0.length (a3_0_b0.flatMap encR45),.rd β2 a3_0_b1.length (a3_0_b1.flatMap encR93)]⟩),(3,⟨28,false,[.rd β3 a3_1_b0.length (a3_1_b0.flatMap (encI .i64))]⟩)]) (.c rfl<| .c rfl<| .c rfl<| .n _) ?_
    exact Res.of rfl (.nil) rfl rfl
  · refine AWP.vc (s' := ⟨[(0,.own 1 1 0 a0_b.length),(1,.sc (.int .i64 a1)),(2,.sc (.int .i64 a2)),(3,.clo (.func 84) [] [.ptr 2 0,.ptr 3 0]),(8,.sc (.int .i64 t8_1))],[(1,⟨3,true,a0_b.flatMap (encI .i64)⟩),(2,⟨32,false,[.rd β1 a3_0_b0.length (a3_0_b0.flatMap encR45),.rd β2 a3_0_b1.length (a3_0_b1.flatMap encR93)]⟩),(3,⟨28,false,[.rd β3 a3_1_b0.length (a3_1_b0.flatMap (encI .i64))]⟩)]⟩) (VC.sub (.c rfl<| .c rfl<| .c rfl<| .c rfl<| .c rfl<| .n _) (.c rfl<| .c rfl<| .c rfl<| .n _)) ?_
    refine AWP.loopM (S := fun x_78 : Int × (List Int) => ⟨[(0,.own 1 1 0 x_78.2.length),(1,.sc (.int .i64 a1)),(2,.sc (.int .i64 a2)),(3,.clo (.func 84) [] [.ptr 2 0,.ptr 3 0]),(8,.sc (.int .i64 x_78.1))],[(1,⟨3,true,x_78.2.flatMap (encI .i64)⟩),(2,⟨32,false,[.rd β1 a3_0_b0.length (a3_0_b0.flatMap encR45),.rd β2 a3_0_b1.length (a3_0_b1.flatMap encR93)]⟩),(3,⟨28,false,[.rd β3 a3_1_b0.length (a3_1_b0.flatMap (encI .i64))]⟩)]⟩) (x := (t8_1,a0_b)) (fun nx_79 x_78 h => ?_) h
    unfold m111_L3 at h
    refine AWP.seq ?_
    refine AWP.seq ?_
    refine AWP.region (.cons (.move (lt1 rfl) (.tmp rfl))<| .cons (.move (lt1 rfl) (.tmp rfl))<| .cons (.lss (lt1 rfl) (.tmp rfl) (.tmp rfl))<| ARun.nil _ _ _) ?_
    refine AWP.vc (s' := ⟨[(0,.own 1 1 0 x_78.2.length),(1,.sc (.int .i64 a1)),(2,.sc (.int .i64 a2)),(3,.clo (.func 84) [] [.ptr 2 0,.ptr 3 0]),(8,.sc (.int .i64 x_78.1)),(14,.sc (.bool (decide (x_78.1 < a2))))],[(1,⟨3,true,x_78.2.flatMap (encI .i64)⟩),(2,⟨32,false,[.rd β1 a3_0_b0.length (a3_0_b0.flatMap encR45),.rd β2 a3_0_b1.length (a3_0_b1.flatMap encR93)]⟩),(3,⟨28,false,[.rd β3 a3_1_b0.length (a3_1_b0.flatMap (encI .i64))]⟩)]⟩) (VC.sub (.c rfl<| .c rfl<| .c rfl<| .c rfl<| .c rfl<| .c rfl<| .n _) (.c rfl<| .c rfl<| .c rfl<| .n _)) ?_
    refine AWP.cond (.tmp rfl) (fun hc => ?_) (fun hc => ?_)
    · have h := iteT hc h
      refine AWP.skip ?_
      refine AWP.seq ?_
      refine AWP.block ?_
      refine AWP.seq ?_
      refine AWP.region (.cons (.move (lt1 rfl) (.tmp rfl))<| .cons (.assign (lt1 rfl) (.tmp rfl))<| ARun.nil _ _ _) ?_
      refine AWP.vc (s' := ⟨[(0,.own 1 1 0 x_78.2.length),(1,.sc (.int .i64 a1)),(2,.sc (.int .i64 a2)),(3,.clo (.func 84) [] [.ptr 2 0,.ptr 3 0]),(8,.sc (.int .i64 x_78.1)),(9,.sc (.int .i64 x_78.1))],[(1,⟨3,true,x_78.2.flatMap (encI .i64)⟩),(2,⟨32,false,[.rd β1 a3_0_b0.length (a3_0_b0.flatMap encR45),.rd β2 a3_0_b1.length (a3_0_b1.flatMap encR93)]⟩),(3,⟨28,false,[.rd β3 a3_1_b0.length (a3_1_b0.flatMap (encI .i64))]⟩)]⟩) (VC.sub (.c rfl<| .c rfl<| .c rfl<| .c rfl<| .c rfl<| .c rfl<| .n _) (.c rfl<| .c rfl<| .c rfl<| .n _)) ?_
      refine AWP.joinB' (S := fun p_114 : (List Int) => ⟨[(0,.own 1 1 0 p_114.length),(1,.sc (.int .i64 a1)),(2,.sc (.int .i64 a2)),(3,.clo (.func 84) [] [.ptr 2 0,.ptr 3 0]),(8,.sc (.int .i64 x_78.1))],[(1,⟨3,true,p_114.flatMap (encI .i64)⟩),(2,⟨32,false,[.rd β1 a3_0_b0.length (a3_0_b0.flatMap encR45),.rd β2 a3_0_b1.length (a3_0_b1.flatMap encR93)]⟩),(3,⟨28,false,[.rd β3 a3_1_b0.length (a3_1_b0.flatMap (encI .i64))]⟩)]⟩) h (fun p_114 h => ?_) (fun k_115 h => ?_)
      · obtain ⟨t8_116,ht8_116,h⟩ := letS h
        refine AWP.region (.cons (.move (lt1 rfl) (.tmp rfl))<| .cons (.add (lt1 rfl) (.tmp rfl) (.const _ _ _))<| .cons (.assign (lt1 rfl) (.tmp rfl))<| ARun.nil _ _ _) ?_
        exact endJ (t8_116,p_114) h (by subst ht8_116; exact VC.sub (.c rfl<| .c rfl<| .c rfl<| .c rfl<| .c rfl<| .n _) (.c rfl<| .c rfl<| .c rfl<| .n _))
      · refine AWP.vc (s' := ⟨[(0,.own 1 1 0 x_78.2.length),(1,.sc (.int .i64 a1)),(2,.sc (.int .i64 a2)),(3,.clo (.func 84) [] [.ptr 2 0,.ptr 3 0]),(8,.sc (.int .i64 x_78.1)),(9,.sc (.int .i64 x_78.1))],[(1,⟨3,true,x_78.2.flatMap (encI .i64)⟩),(2,⟨32,false,[.rd β1 a3_0_b0.length (a3_0_b0.flatMap encR45),.rd β2 a3_0_b1.length (a3_0_b1.flatMap encR93)]⟩),(3,⟨28,false,[.rd β3 a3_1_b0.length (a3_1_b0.flatMap (encI .i64))]⟩)]⟩) (VC.sub (.c rfl<| .c rfl<| .c rfl<| .c rfl<| .c rfl<| .c rfl<| .n _) (.c rfl<| .c rfl<| .c rfl<| .n _)) ?_
        refine AWP.loopM (S := fun x_102 : Int × (List Int) => ⟨[(0,.own 1 1 0 x_102.2.length),(1,.sc (.int .i64 a1)),(2,.sc (.int .i64 a2)),(3,.clo (.func 84) [] [.ptr 2 0,.ptr 3 0]),(8,.sc (.int .i64 x_78.1)),(9,.sc (.int .i64 x_102.1))],[(1,⟨3,true,x_102.2.flatMap (encI .i64)⟩),(2,⟨32,false,[.rd β1 a3_0_b0.length (a3_0_b0.flatMap encR45),.rd β2 a3_0_b1.length (a3_0_b1.flatMap encR93)]⟩),(3,⟨28,false,[.rd β3 a3_1_b0.length (a3_1_b0.flatMap (encI .i64))]⟩)]⟩) (x := (x_78.1,x_78.2)) (fun nx_103 x_102 h => ?_) h
        unfold m111_L4 at h
        refine AWP.seq ?_
        refine AWP.seq ?_
        obtain ⟨y_104,hy_104,h⟩ := bindS h
        obtain ⟨y_105,hy_105,h⟩ := bindS h
        obtain ⟨y_106,hy_106,h⟩ := bindS h
        refine AWP.draw (s' := ⟨[(0,.own 1 1 0 x_102.2.length),(1,.sc (.int .i64 a1)),(2,.sc (.int .i64 a2)),(3,.clo (.func 84) [] [.ptr 2 0,.ptr 3 0]),(8,.sc (.int .i64 x_78.1)),(9,.sc (.int .i64 x_102.1)),(34,.sc (.bool ((decide (a1 < x_102.1)) && (decide (y_106 < (0 : Int))))))],[(1,⟨3,true,x_102.2.flatMap (encI .i64)⟩),(2,⟨32,false,[.rd β1 a3_0_b0.length (a3_0_b0.flatMap encR45),.rd β2 a3_0_b1.length (a3_0_b1.flatMap encR93)]⟩),(3,⟨28,false,[.rd β3 a3_1_b0.length (a3_1_b0.flatMap (encI .i64))]⟩)]⟩) mixed [⟨0,.own 1 1 0 x_102.2.length,none,[]⟩,⟨1,.sc (.int .i64 a1),none,[]⟩,⟨2,.sc (.int .i64 a2),none,[]⟩,⟨3,.clo (.func 84) [] [.ptr 2 0,.ptr 3 0],none,[]⟩,⟨8,.sc (.int .i64 x_78.1),none,[]⟩,⟨9,.sc (.int .i64 x_102.1),none,[]⟩,⟨18,.sc (.int .i64 x_102.1),some 0,[]⟩,⟨19,.sc (.int .i64 a1),some 1,[]⟩,⟨20,.sc (.bool (decide (a1 < x_102.1))),some 2,[]⟩,⟨21,.sc (.bool (decide (a1 < x_102.1))),some 3,[]⟩,⟨22,.gd (decide (a1 < x_102.1)) (.clo (.func 84) [] [.ptr 2 0,.ptr 3 0]),some 4,[]⟩,⟨23,.gd (decide (a1 < x_102.1)) (.own 1 1 0 x_102.2.length),some 5,[]⟩,⟨24,.gd (decide (a1 < x_102.1)) (.sc (.int .i64 x_102.1)),some 6,[]⟩,⟨25,.gd (decide (a1 < x_102.1)) (.ptr 1 (0 + (x_102.1).toNat * 1)),some 7,[]⟩,⟨26,.gd (decide (a1 < x_102.1)) (.sc (.int .i64 y_104)),some 8,[]⟩,⟨27,.gd (decide (a1 < x_102.1)) (.own 1 1 0 x_102.2.length),some 9,[]⟩,⟨28,.gd (decide (a1 < x_102.1)) (.sc (.int .i64 x_102.1)),some 10,[]⟩,⟨29,.gd (decide (a1 < x_102.1)) (.sc (.int .i64 (IntKind.wrap .i64 (x_102.1 - (1 : Int))))),some 11,[]⟩,⟨30,.gd (decide (a1 < x_102.1)) (.ptr 1 (0 + ((IntKind.wrap .i64 (x_102.1 - (1 : Int)))).toNat * 1)),some 12,[]⟩,⟨31,.gd (decide (a1 < x_102.1)) (.sc (.int .i64 y_105)),some 13,[]⟩,⟨32,.gd (decide (a1 < x_102.1)) (.sc (.int .i64 y_106)),some 14,[]⟩,⟨33,.gd (decide (a1 < x_102.1)) (.sc (.bool (decide (y_106 < (0 : Int))))),some 15,[]⟩,⟨34,.sc (.bool ((decide (a1 < x_102.1)) && (decide (y_106 < (0 : Int))))),some 16,[]⟩] [⟨[5],0,0,some (18,.sc (.int .i64 x_102.1)),[]⟩,⟨[1],0,0,some (19,.sc (.int .i64 a1)),[]⟩,⟨[6,7],0,0,some (20,.sc (.bool (decide (a1 < x_102.1)))),[]⟩,⟨[8],0,0,some (21,.sc (.bool (decide (a1 < x_102.1)))),[]⟩,⟨[9,3],0,0,some (22,.gd (decide (a1 < x_102.1)) (.clo (.func 84) [] [.ptr 2 0,.ptr 3 0])),[]⟩,⟨[9,0],0,0,some (23,.gd (decide (a1 < x_102.1)) (.own 1 1 0 x_102.2.length)),[]⟩,⟨[9,5],0,0,some (24,.gd (decide (a1 < x_102.1)) (.sc (.int .i64 x_102.1))),[]⟩,⟨[9,11,12],0,0,some (25,.gd (decide (a1 < x_102.1)) (.ptr 1 (0 + (x_102.1).toNat * 1))),[]⟩,⟨[9,13],0,0,some (26,.gd (decide (a1 < x_102.1)) (.sc (.int .i64 y_104))),[]⟩,⟨[9,0],0,0,some (27,.gd (decide (a1 < x_102.1)) (.own 1 1 0 x_102.2.length)),[]⟩,⟨[9,5],0,0,some (28,.gd (decide (a1 < x_102.1)) (.sc (.int .i64 x_102.1))),[]⟩,⟨[9,16],0,0,some (29,.gd (decide (a1 < x_102.1)) (.sc (.int .i64 (IntKind.wrap .i64 (x_102.1 - (1 : Int)))))),[]⟩,⟨[9,15,17],0,0,some (30,.gd (decide (a1 < x_102.1)) (.ptr 1 (0 + ((IntKind.wrap .i64 (x_102.1 - (1 : Int)))).toNat * 1))),[]⟩,⟨[9,18],0,0,some (31,.gd (decide (a1 < x_102.1)) (.sc (.int .i64 y_105))),[]⟩,⟨[9,10,14,19],0,0,some (32,.gd (decide (a1 < x_102.1)) (.sc (.int .i64 y_106))),[]⟩,⟨[9,20],0,0,some (33,.gd (decide (a1 < x_102.1)) (.sc (.bool (decide (y_106 < (0 : Int)))))),[]⟩,⟨[9,21],0,0,some (34,.sc (.bool ((decide (a1 < x_102.1)) && (decide (y_106 < (0 : Int)))))),[]⟩] [] [[(1,⟨3,true,x_102.2.flatMap (encI .i64)⟩),(2,⟨32,false,[.rd β1 a3_0_b0.length (a3_0_b0.flatMap encR45),.rd β2 a3_0_b1.length (a3_0_b1.flatMap encR93)]⟩),(3,⟨28,false,[.rd β3 a3_1_b0.length (a3_1_b0.flatMap (encI .i64))]⟩)]] [[],[],[0,1],[0,1,2],[0,1,2,3],[0,1,2,3],[0,1,2,3],[0,1,2,3,5,6],[0,1,2,3,5,6,7],[0,1,2,3],[0,1,2,3],[0,1,2,3,10],[0,1,2,3,9,10,11],[0,1,2,3,9,10,11,12],[0,1,2,3,4,5,6,7,8,9,10,11,12,13],[0,1,2,3,4,5,6,7,8,9,10,11,12,13,14],[0,1,2,3,4,5,6,7,8,9,10,11,12,13,14,15]] (by kernel_rfl) (by kernel_rfl) (BornL.ok (.o<| .o<| .o<| .o<| .o<| .o<| .b rfl rfl<| .b rfl rfl<| .b rfl rfl<| .b rfl rfl<| .b rfl rfl<| .b rfl rfl<| .b rfl rfl<| .b rfl rfl<| .b rfl rfl<| .b rfl rfl<| .b rfl rfl<| .b rfl rfl<| .b rfl rfl<| .b rfl rfl<| .b rfl rfl<| .b rfl rfl<| .b rfl rfl<| .n)) (BaseL.ok (.o rfl<| .o rfl<| .o rfl<| .o rfl<| .o rfl<| .o rfl<| .b<| .b<| .b<| .b<| .b<| .b<| .b<| .b<| .b<| .b<| .b<| .b<| .b<| .b<| .b<| .b<| .b<| .n)) rfl (by decide) (allLt rfl) (.pure rfl (fun H => .put (fun E hE => .move (lt1 rfl) (.tmp (hE.at (k := 0) rfl))))<| .pure rfl (fun H => .put (fun E hE => .move (lt1 rfl) (.tmp (hE.at (k := 0) rfl))))<| .pure rfl (fun H => .put (fun E hE => .gtr (lt1 rfl) (.tmp (hE.at (k := 0) rfl)) (.tmp (hE.at (k := 1) rfl))))<| .pure rfl (fun H => .put (fun E hE => .move (lt1 rfl) (.tmp (hE.at (k := 0) rfl))))<| .pure rfl (fun H => .gput (b := (decide (a1 < x_102.1))) (want := true) (j := 3) (dj := 21) rfl (lt1 rfl) (lt1 rfl) (fun E hE => hE.at (k := 0) rfl) (fun hg E hE => .move (lt1 rfl) (.tmp (hE.at (k := 1) rfl))))<| .read rfl (.c (.gput (b := (decide (a1 < x_102.1))) (want := true) (j := 3) (dj := 21) rfl (lt1 rfl) (lt1 rfl) (fun E hE => hE.at (k := 0) rfl) (fun hg E hE => .move (lt1 rfl) (.tmp (hE.at (k := 1) rfl)))) .n)<| .pure rfl (fun H => .gput (b := (decide (a1 < x_102.1))) (want := true) (j := 3) (dj := 21) rfl (lt1 rfl) (lt1 rfl) (fun E hE => hE.at (k := 0) rfl) (fun hg E hE => .move (lt1 rfl) (.tmp (hE.at (k := 1) rfl))))<| .read rfl (.c (.gput (b := (decide (a1 < x_102.1))) (want := true) (j := 3) (dj := 21) rfl (lt1 rfl) (lt1 rfl) (fun E hE => hE.at (k := 0) rfl) (fun hg E hE => .idxOwn (lt1 rfl) (.gd hg (.tmp (hE.at (k := 1) rfl))) (.gd hg (.tmp (hE.at (k := 2) rfl))) Try.underlying28 sz3 rfl (gdB hy_104 hg))) .n)<| .read rfl (.c (.gput (b := (decide (a1 < x_102.1))) (want := true) (j := 3) (dj := 21) rfl (lt1 rfl) (lt1 rfl) (fun E hE => hE.at (k := 0) rfl) (fun hg E hE => .loadP (lt1 rfl) (.gd hg (.tmp (hE.at (k := 1) rfl))) one3 rfl (cell_at1 (encI_len .i64) (gdB hy_104 hg)) rfl)) .n)<| .read rfl (.c (.gput (b := (decide (a1 < x_102.1))) (want := true) (j := 3) (dj := 21) rfl (lt1 rfl) (lt1 rfl) (fun E hE => hE.at (k := 0) rfl) (fun hg E hE => .move (lt1 rfl) (.tmp (hE.at (k := 1) rfl)))) .n)<| .pure rfl (fun H => .gput (b := (decide (a1 < x_102.1))) (want := true) (j := 3) (dj := 21) rfl (lt1 rfl) (lt1 rfl) (fun E hE => hE.at (k := 0) rfl) (fun hg E hE => .move (lt1 rfl) (.tmp (hE.at (k := 1) rfl))))<| .pure rfl (fun H => .gput (b := (decide (a1 < x_102.1))) (want := true) (j := 3) (dj := 21) rfl (lt1 rfl) (lt1 rfl) (fun E hE => hE.at (k := 0) rfl) (fun hg E hE => .sub (lt1 rfl) (.gd hg (.tmp (hE.at (k := 1) rfl))) (.const _ _ _)))<| .read rfl (.c (.gput (b := (decide (a1 < x_102.1))) (want := true) (j := 3) (dj := 21) rfl (lt1 rfl) (lt1 rfl) (fun E hE => hE.at (k := 0) rfl) (fun hg E hE => .idxOwn (lt1 rfl) (.gd hg (.tmp (hE.at (k := 1) rfl))) (.gd hg (.tmp (hE.at (k := 2) rfl))) Try.underlying28 sz3 rfl (gdB hy_105 hg))) .n)<| .read rfl (.c (.gput (b := (decide (a1 < x_102.1))) (want := true) (j := 3) (dj := 21) rfl (lt1 rfl) (lt1 rfl) (fun E hE => hE.at (k := 0) rfl) (fun hg E hE => .loadP (lt1 rfl) (.gd hg (.tmp (hE.at (k := 1) rfl))) one3 rfl (cell_at1 (encI_len .i64) (gdB hy_105 hg)) rfl)) .n)<| .read rfl (.c (.gput (b := (decide (a1 < x_102.1))) (want := true) (j := 3) (dj := 21) rfl (lt1 rfl) (lt1 rfl) (fun E hE => hE.at (k := 0) rfl) (fun hg E hE => .keep (bw := false) (AStep.callV (us' := []) (avs := [.sc (.int .i64 y_104),.sc (.int .i64 y_105)]) (cs' := [.ptr 1 0,.ptr 2 0]) (σ := sgT [(1,2),(2,3)]) (bw := false) (lt1 rfl) (.gd hg (.tmp (hE.at (k := 1) rfl))) (c84 (β1 := β1) (β2 := β2) (β3 := β3) n y_104 y_105 a3_0_b0 a3_0_b1 a3_1_b0 (gdB hy_106 hg)) (.nil) (.cons (.gd hg (.tmp (hE.at (k := 2) rfl))) (.ren rfl) (.cons (.gd hg (.tmp (hE.at (k := 3) rfl))) (.ren rfl) (.nil))) (.cons (.ren rfl) (.cons (.ren rfl) (.nil))) (CallOk.mk' (.c rfl (.c rfl (.n))) rfl) (fun _ h => by cases h)) (CallOk.mk' (.c rfl (.c rfl (.n))) rfl) rfl rfl)) .n)<| .pure rfl (fun H => .gput (b := (decide (a1 < x_102.1))) (want := true) (j := 3) (dj := 21) rfl (lt1 rfl) (lt1 rfl) (fun E hE => hE.at (k := 0) rfl) (fun hg E hE => .lss (lt1 rfl) (.gd hg (.tmp (hE.at (k := 1) rfl))) (.const _ _ _)))<| .pure rfl (fun H => .put (fun E hE => .pickAnd (lt1 rfl) (.tmp (hE.at (k := 0) rfl)) (.tmp (hE.at (k := 1) rfl)) (.const _ _ _)))<| .nil _) (fun E hE => .c (DInv.at hE (k := 0) rfl rfl rfl)<| .c (DInv.at hE (k := 1) rfl rfl rfl)<| .c (DInv.at hE (k := 2) rfl rfl rfl)<| .c (DInv.at hE (k := 3) rfl rfl rfl)<| .c (DInv.at hE (k := 4) rfl rfl rfl)<| .c (DInv.at hE (k := 5) rfl rfl rfl)<| .c (DInv.at hE (k := 22) rfl rfl rfl)<| .n _) rfl ?_
        refine AWP.vc (s' := ⟨[(0,.own 1 1 0 x_102.2.length),(1,.sc (.int .i64 a1)),(2,.sc (.int .i64 a2)),(3,.clo (.func 84) [] [.ptr 2 0,.ptr 3 0]),(8,.sc (.int .i64 x_78.1)),(9,.sc (.int .i64 x_102.1)),(34,.sc (.bool ((decide (a1 < x_102.1)) && (decide (y_106 < (0 : Int))))))],[(1,⟨3,true,x_102.2.flatMap (encI .i64)⟩),(2,⟨32,false,[.rd β1 a3_0_b0.length (a3_0_b0.flatMap encR45),.rd β2 a3_0_b1.length (a3_0_b1.flatMap encR93)]⟩),(3,⟨28,false,[.rd β3 a3_1_b0.length (a3_1_b0.flatMap (encI .i64))]⟩)]⟩) (VC.sub (.c rfl<| .c rfl<| .c rfl<| .c rfl<| .c rfl<| .c rfl<| .c rfl<| .n _) (.c rfl<| .c rfl<| .c rfl<| .n _)) ?_
        refine AWP.cond (.tmp rfl) (fun hc => ?_) (fun hc => ?_)
        · have h := iteT hc h
          refine AWP.skip ?_
          refine AWP.seq ?_
          refine AWP.block ?_
          obtain ⟨y_107,hy_107,h⟩ := bindS h
          obtain ⟨y_108,hy_108,h⟩ := bindS h
          obtain ⟨y_109,hy_109,h⟩ := bindS h
          obtain ⟨l1_110,hl1_110,h⟩ := bindS h
          obtain ⟨y_111,hy_111,h⟩ := bindS h
          obtain ⟨l1_112,hl1_112,h⟩ := bindS h
          refine AWP.draw (s' := ⟨[(0,.own 1 1 0 x_102.2.length),(1,.sc (.int .i64 a1)),(2,.sc (.int .i64 a2)),(3,.clo (.func 84) [] [.ptr 2 0,.ptr 3 0]),(8,.sc (.int .i64 x_78.1)),(9,.sc (.int .i64 x_102.1))],[(1,⟨3,true,l1_112.flatMap (encI .i64)⟩),(2,⟨32,false,[.rd β1 a3_0_b0.length (a3_0_b0.flatMap encR45),.rd β2 a3_0_b1.length (a3_0_b1.flatMap encR93)]⟩),(3,⟨28,false,[.rd β3 a3_1_b0.length (a3_1_b0.flatMap (encI .i64))]⟩)]⟩) mixed [⟨0,.own 1 1 0 x_102.2.length,none,[]⟩,⟨1,.sc (.int .i64 a1),none,[]⟩,⟨2,.sc (.int .i64 a2),none,[]⟩,⟨3,.clo (.func 84) [] [.ptr 2 0,.ptr 3 0],none,[]⟩,⟨8,.sc (.int .i64 x_78.1),none,[]⟩,⟨9,.sc (.int .i64 x_102.1),none,[]⟩,⟨34,.sc (.bool ((decide (a1 < x_102.1)) && (decide (y_106 < (0 : Int))))),none,[]⟩,⟨37,.own 1 1 0 x_102.2.length,some 0,[]⟩,⟨38,.sc (.int .i64 x_102.1),some 1,[]⟩,⟨39,.own 1 1 0 x_102.2.length,some 2,[]⟩,⟨40,.sc (.int .i64 x_102.1),some 3,[]⟩,⟨41,.sc (.int .i64 (IntKind.wrap .i64 (x_102.1 - (1 : Int)))),some 4,[]⟩,⟨42,.own 1 1 0 x_102.2.length,some 5,[]⟩,⟨43,.sc (.int .i64 x_102.1),some 6,[]⟩,⟨44,.sc (.int .i64 (IntKind.wrap .i64 (x_102.1 - (1 : Int)))),some 7,[]⟩,⟨45,.ptr 1 (0 + ((IntKind.wrap .i64 (x_102.1 - (1 : Int)))).toNat * 1),some 8,[]⟩,⟨46,.sc (.int .i64 y_107),some 9,[]⟩,⟨47,.own 1 1 0 x_102.2.length,some 10,[]⟩,⟨48,.sc (.int .i64 x_102.1),some 11,[]⟩,⟨49,.ptr 1 (0 + (x_102.1).toNat * 1),some 12,[]⟩,⟨50,.sc (.int .i64 y_108),some 13,[]⟩,⟨51,.ptr 1 (0 + (x_102.1).toNat * 1),some 14,[]⟩,⟨52,.ptr 1 (0 + ((IntKind.wrap .i64 (x_102.1 - (1 : Int)))).toNat * 1),some 16,[]⟩] [⟨[0],0,0,some (37,.own 1 1 0 x_102.2.length),[]⟩,⟨[5],0,2,some (38,.sc (.int .i64 x_102.1)),[]⟩,⟨[0],0,1,some (39,.own 1 1 0 x_102.2.length),[]⟩,⟨[5],0,2,some (40,.sc (.int .i64 x_102.1)),[]⟩,⟨[10],0,2,some (41,.sc (.int .i64 (IntKind.wrap .i64 (x_102.1 - (1 : Int))))),[]⟩,⟨[0],0,0,some (42,.own 1 1 0 x_102.2.length),[]⟩,⟨[5],0,2,some (43,.sc (.int .i64 x_102.1)),[]⟩,⟨[13],0,2,some (44,.sc (.int .i64 (IntKind.wrap .i64 (x_102.1 - (1 : Int))))),[]⟩,⟨[12,14],0,0,some (45,.ptr 1 (0 + ((IntKind.wrap .i64 (x_102.1 - (1 : Int)))).toNat * 1)),[]⟩,⟨[15],0,0,some (46,.sc (.int .i64 y_107)),[]⟩,⟨[0],0,0,some (47,.own 1 1 0 x_102.2.length),[]⟩,⟨[5],0,2,some (48,.sc (.int .i64 x_102.1)),[]⟩,⟨[17,18],0,0,some (49,.ptr 1 (0 + (x_102.1).toNat * 1)),[]⟩,⟨[19],0,0,some (50,.sc (.int .i64 y_108)),[]⟩,⟨[7,8],0,0,some (51,.ptr 1 (0 + (x_102.1).toNat * 1)),[]⟩,⟨[21,16],0,0,none,[]⟩,⟨[9,11],1,1,some (52,.ptr 1 (0 + ((IntKind.wrap .i64 (x_102.1 - (1 : Int)))).toNat * 1)),[]⟩,⟨[22,20],1,1,none,[]⟩] [15,17] [[(1,⟨3,true,x_102.2.flatMap (encI .i64)⟩),(2,⟨32,false,[.rd β1 a3_0_b0.length (a3_0_b0.flatMap encR45),.rd β2 a3_0_b1.length (a3_0_b1.flatMap encR93)]⟩),(3,⟨28,false,[.rd β3 a3_1_b0.length (a3_1_b0.flatMap (encI .i64))]⟩)],[(1,⟨3,true,l1_110.flatMap (encI .i64)⟩),(2,⟨32,false,[.rd β1 a3_0_b0.length (a3_0_b0.flatMap encR45),.rd β2 a3_0_b1.length (a3_0_b1.flatMap encR93)]⟩),(3,⟨28,false,[.rd β3 a3_1_b0.length (a3_1_b0.flatMap (encI .i64))]⟩)],[(1,⟨3,true,l1_112.flatMap (encI .i64)⟩),(2,⟨32,false,[.rd β1 a3_0_b0.length (a3_0_b0.flatMap encR45),.rd β2 a3_0_b1.length (a3_0_b1.flatMap encR93)]⟩),(3,⟨28,false,[.rd β3 a3_1_b0.length (a3_1_b0.flatMap (encI .i64))]⟩)]] [[],[],[],[],[3],[],[],[6],[5,6,7],[5,6,7,8],[],[],[10,11],[10,11,12],[0,1,5,6,7,8,9,10,11,12,13],[0,1,5,6,7,8,9,10,11,12,13,14],[0,1,2,3,4,5,6,7,8,9,10,11,12,13,14,15],[0,1,2,3,4,5,6,7,8,9,10,11,12,13,14,15,16]] (by kernel_rfl) (by kernel_rfl) (BornL.ok (.o<| .o<| .o<| .o<| .o<| .o<| .o<| .b rfl rfl<| .b rfl rfl<| .b rfl rfl<| .b rfl rfl<| .b rfl rfl<| .b rfl rfl<| .b rfl rfl<| .b rfl rfl<| .b rfl rfl<| .b rfl rfl<| .b rfl rfl<| .b rfl rfl<| .b rfl rfl<| .b rfl rfl<| .b rfl rfl<| .b rfl rfl<| .n)) (BaseL.ok (.o rfl<| .o rfl<| .o rfl<| .o rfl<| .o rfl<| .o rfl<| .o rfl<| .b<| .b<| .b<| .b<| .b<| .b<| .b<| .b<| .b<| .b<| .b<| .b<| .b<| .b<| .b<| .b<| .n)) rfl (by decide) (allLt rfl) (.read rfl (.c (.put (fun E hE => .move (lt1 rfl) (.tmp (hE.at (k := 0) rfl)))) (.n))<| .pure rfl (fun H => .put (fun E hE => .move (lt1 rfl) (.tmp (hE.at (k := 0) rfl))))<| .read rfl (.c (.put (fun E hE => .move (lt1 rfl) (.tmp (hE.at (k := 0) rfl)))) (.c (.put (fun E hE => .move (lt1 rfl) (.tmp (hE.at (k := 0) rfl)))) (.n)))<| .pure rfl (fun H => .put (fun E hE => .move (lt1 rfl) (.tmp (hE.at (k := 0) rfl))))<| .pure rfl (fun H => .put (fun E hE => .sub (lt1 rfl) (.tmp (hE.at (k := 0) rfl)) (.const _ _ _)))<| .read rfl (.c (.put (fun E hE => .move (lt1 rfl) (.tmp (hE.at (k := 0) rfl)))) (.n))<| .pure rfl (fun H => .put (fun E hE => .move (lt1 rfl) (.tmp (hE.at (k := 0) rfl))))<| .pure rfl (fun H => .put (fun E hE => .sub (lt1 rfl) (.tmp (hE.at (k := 0) rfl)) (.const _ _ _)))<| .read rfl (.c (.put (fun E hE => .idxOwn (lt1 rfl) (.tmp (hE.at (k := 0) rfl)) (.tmp (hE.at (k := 1) rfl)) Try.underlying28 sz3 rfl hy_107)) (.n))<| .read rfl (.c (.put (fun E hE => .loadP (lt1 rfl) (.tmp (hE.at (k := 0) rfl)) one3 rfl (cell_at1 (encI_len .i64) hy_107) rfl)) (.n))<| .read rfl (.c (.put (fun E hE => .move (lt1 rfl) (.tmp (hE.at (k := 0) rfl)))) (.n))<| .pure rfl (fun H => .put (fun E hE => .move (lt1 rfl) (.tmp (hE.at (k := 0) rfl))))<| .read rfl (.c (.put (fun E hE => .idxOwn (lt1 rfl) (.tmp (hE.at (k := 0) rfl)) (.tmp (hE.at (k := 1) rfl)) Try.underlying28 sz3 rfl hy_108)) (.n))<| .read rfl (.c (.put (fun E hE => .loadP (lt1 rfl) (.tmp (hE.at (k := 0) rfl)) one3 rfl (cell_at1 (encI_len .i64) hy_108) rfl)) (.n))<| .read rfl (.c (.put (fun E hE => .idxOwn (lt1 rfl) (.tmp (hE.at (k := 0) rfl)) (.tmp (hE.at (k := 1) rfl)) Try.underlying28 sz3 rfl hy_109)) (.n))<| .turn rfl rfl rfl rfl rfl (.store (fun E hE => .storeP (.tmp (hE.at (k := 0) rfl)) (.tmp (hE.at (k := 1) rfl)) sz3 rfl (lt_at1 (encI_len .i64) hy_109) rfl (fun _ => rfl) (set_at1 (encI_len .i64) hl1_110 rfl)) rfl)<| .read rfl (.c (.put (fun E hE => .idxOwn (lt1 rfl) (.ownN (Eq.symm (setLen hl1_110)) (.tmp (hE.at (k := 0) rfl))) (.tmp (hE.at (k := 1) rfl)) Try.underlying28 sz3 rfl hy_111)) (.n))<| .turn rfl rfl rfl rfl rfl (.store (fun E hE => .storeP (.tmp (hE.at (k := 0) rfl)) (.tmp (hE.at (k := 1) rfl)) sz3 rfl (lt_at1 (encI_len .i64) hy_111) rfl (fun _ => rfl) (set_at1 (encI_len .i64) hl1_112 rfl)) rfl)<| .nil _) (fun E hE => .c (DInv.at hE (k := 0) rfl rfl rfl)<| .c (DInv.at hE (k := 1) rfl rfl rfl)<| .c (DInv.at hE (k := 2) rfl rfl rfl)<| .c (DInv.at hE (k := 3) rfl rfl rfl)<| .c (DInv.at hE (k := 4) rfl rfl rfl)<| .c (DInv.at hE (k := 5) rfl rfl rfl)<| .n _) rfl ?_
          refine AWP.vc (s' := ⟨[(0,.own 1 1 0 l1_112.length),(1,.sc (.int .i64 a1)),(2,.sc (.int .i64 a2)),(3,.clo (.func 84) [] [.ptr 2 0,.ptr 3 0]),(8,.sc (.int .i64 x_78.1)),(9,.sc (.int .i64 x_102.1))],[(1,⟨3,true,l1_112.flatMap (encI .i64)⟩),(2,⟨32,false,[.rd β1 a3_0_b0.length (a3_0_b0.flatMap encR45),.rd β2 a3_0_b1.length (a3_0_b1.flatMap encR93)]⟩),(3,⟨28,false,[.rd β3 a3_1_b0.length (a3_1_b0.flatMap (encI .i64))]⟩)]⟩) (VC.sub (.c (lenC (Eq.symm (Eq.trans (setLen hl1_112) (setLen hl1_110))) rfl)<| .c rfl<| .c rfl<| .c rfl<| .c rfl<| .c rfl<| .n _) (.c rfl<| .c rfl<| .c rfl<| .n _)) ?_
          obtain ⟨t9_113,ht9_113,h⟩ := letS h
          refine AWP.region (.cons (.move (lt1 rfl) (.tmp rfl))<| .cons (.sub (lt1 rfl) (.tmp rfl) (.const _ _ _))<| .cons (.assign (lt1 rfl) (.tmp rfl))<| ARun.nil _ _ _) ?_
          exact endJ (t9_113,l1_112) h (by subst ht9_113; exact VC.sub (.c rfl<| .c rfl<| .c rfl<| .c rfl<| .c rfl<| .c rfl<| .n _) (.c rfl<| .c rfl<| .c rfl<| .n _))
        · have h := iteF hc h
          refine AWP.exit ?_
          exact endJ x_102.2 h (VC.sub (.c rfl<| .c rfl<| .c rfl<| .c rfl<| .c rfl<| .n _) (.c rfl<| .c rfl<| .c rfl<| .n _))
    · have h := iteF hc h
      refine AWP.exit ?_
      exact endJ x_78.2 h (VC.sub (.n _) (.c rfl<| .c rfl<| .c rfl<| .n _))
end Go.AB
