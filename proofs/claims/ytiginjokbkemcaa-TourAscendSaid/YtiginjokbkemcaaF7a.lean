import Derived.Test.YtiginjokbkemcaaProg
import Derived.Test.YtiginjokbkemcaaF0b
import Derived.KernelRfl
set_option linter.unusedVariables false
set_option maxRecDepth 20000
namespace Go.AB
open Go Go.Proofs
theorem c12 {β1 : Bool} {β2 : Bool} (n : Nat) (a0 : R24) {r : Bool} (h : m12 n a0 = some r) : Spec Try.prog 12 [] [.agg [.rd β1 a0.Points.length (a0.Points.flatMap encR45),.rd β2 a0.Before.length (a0.Before.flatMap encR93)]] [] (.sc (.bool r)) [] := by
  refine Spec.of (fn := Try.f12) Try.func12 Try.ntmps12 rfl rfl (le1 rfl) (fun w0 Zs Zb T0 ι0 => ?_)
  unfold m12 at h
  refine AWP.seq ?_
  refine AWP.region (.cons (.box (t := 1) (n := 2) (lt1 rfl) (nm rfl) (.tmp rfl) (by first | exact ⟨rfl,rfl⟩ | rfl) rfl)<| .cons (.assign (lt1 rfl) (.const _ _ _))<| ARun.nil _ _ _) ?_
  refine AWP.vc (s' := ⟨[(1,.ptr 1 0)],[(1,⟨25,false,[.rd β1 a0.Points.length (a0.Points.flatMap encR45),.rd β2 a0.Before.length (a0.Before.flatMap encR93)]⟩)]⟩) (VC.sub (.c rfl<| .n _) (.c rfl<| .n _)) ?_
  refine AWP.seq ?_
  refine AWP.region (.cons (.fieldP (lt1 rfl) (.tmp rfl) fld25_0)<| .cons (.loadP (lt1 rfl) (.tmp rfl) one22 rfl rfl rfl)<| .cons (.lenRd (lt1 rfl) (.tmp rfl) Try.underlying22)<| .cons (.leq (lt1 rfl) (.tmp rfl) (.const _ _ _))<| .cons (.move (lt1 rfl) (.tmp rfl))<| .guard (j := 4) (dj := 7) rfl (lt1 rfl) rfl (lt1 rfl) (fun hg => .fieldP (lt1 rfl) (.tmp rfl) fld25_1)<| .guard (j := 4) (dj := 7) rfl (lt1 rfl) rfl (lt1 rfl) (fun hg => .loadP (lt1 rfl) (.gd hg (.tmp rfl)) one23 rfl rfl rfl)<| .guard (j := 4) (dj := 7) rfl (lt1 rfl) rfl (lt1 rfl) (fun hg => .lenRd (lt1 rfl) (.gd hg (.tmp rfl)) Try.underlying23)<| .guard (j := 4) (dj := 7) rfl (lt1 rfl) rfl (lt1 rfl) (fun hg => .leq (lt1 rfl) (.gd hg (.tmp rfl)) (.const _ _ _))<| .cons (.pickAnd (lt1 rfl) (.tmp rfl) (.tmp rfl) (.const _ _ _))<| .cons (.assign (lt1 rfl) (.tmp rfl))<| ARun.nil _ _ _) ?_
  refine AWP.ret ?_
  obtain rfl := Option.some.inj h
  refine retJ (Res.vc (s' := ⟨[(2,.sc (.bool ((decide ((a0.Points.length : Int) ≤ (9 : Int))) && (decide ((a0.Before.length : Int) ≤ (12 : Int))))))],[]⟩) (VC.sub (.c rfl<| .n _) (.n _)) ?_)
  refine Res.drop (H := []) rfl ?_
  exact Res.of rfl (.cons (.tmp rfl) (.nil)) rfl rfl
theorem c14 {β1 : Bool} {β2 : Bool} (n : Nat) (a0 : R24) {r : R24} (h : m14 n a0 = some r) : Spec Try.prog 14 [] [.agg [.rd β1 a0.Points.length (a0.Points.flatMap encR45),.rd β2 a0.Before.length (a0.Before.flatMap encR93)]] [] (.agg [.rd β1 r.Points.length (r.Points.flatMap encR45),.rd β2 r.Before.length (r.Before.flatMap encR93)]) [] := by
  refine Spec.of (fn := Try.f14) Try.func14 Try.ntmps14 rfl rfl (le1 rfl) (fun w0 Zs Zb T0 ι0 => ?_)
  unfold m14 at h
  refine AWP.seq ?_
  refine AWP.region (.cons (.box (t := 1) (n := 2) (lt1 rfl) (nm rfl) (.tmp rfl) (by first | exact ⟨rfl,rfl⟩ | rfl) rfl)<| .cons (.alloc (t := 2) (k := ⟨32,false,[.sc (.slice none 0 0),.sc (.slice none 0 0)]⟩) (lt1 rfl) (nm rfl) zero32 rfl rfl)<| ARun.nil _ _ _) ?_
  refine AWP.vc (s' := ⟨[(1,.ptr 1 0),(2,.ptr 2 0)],[(2,⟨32,false,[.sc (.slice none 0 0),.sc (.slice none 0 0)]⟩),(1,⟨25,false,[.rd β1 a0.Points.length (a0.Points.flatMap encR45),.rd β2 a0.Before.length (a0.Before.flatMap encR93)]⟩)]⟩) (VC.sub (.c rfl<| .c rfl<| .n _) (.c rfl<| .c rfl<| .n _)) ?_
  refine AWP.seq ?_
  refine AWP.region (.cons (.loadPA (lt1 rfl) (.tmp rfl) agg25 rfl rfl rfl rfl)<| .cons (.storePA (.tmp rfl) (.tmp rfl) sz32 rfl rfl (le1 rfl) (one_lit rfl) (by intro h; cases h) rfl)<| ARun.nil _ _ _) ?_
  refine AWP.ret ?_
  obtain rfl := Option.some.inj h
  refine retJ (Res.vc (s' := ⟨[(2,.ptr 2 0)],[(2,⟨32,false,[.rd β1 a0.Points.length (a0.Points.flatMap encR45),.rd β2 a0.Before.length (a0.Before.flatMap encR93)]⟩)]⟩) (VC.sub (.c rfl<| .n _) (.c rfl<| .n _)) ?_)
  refine Res.drop (H := [(2,⟨32,false,[.rd β1 a0.Points.length (a0.Points.flatMap encR45),.rd β2 a0.Before.length (a0.Before.flatMap encR93)]⟩)]) rfl ?_
  exact Res.of rfl (.cons (.cell rfl agg32 rfl rfl rfl rfl) (.nil)) rfl rfl
theorem c63o {β1 : Bool} (n : Nat) (a0 : (List Int)) {r : (List Int)} (h : m63o n a0 = some r) : Spec Try.prog 63 [] [.rd β1 a0.length (a0.flatMap (encI .i64))] [] (.own 1 1 0 r.length) [(1,⟨3,true,r.flatMap (encI .i64)⟩)] := by
  refine Spec.of (fn := Try.f63) Try.func63 Try.ntmps63 rfl rfl (le1 rfl) (fun w0 Zs Zb T0 ι0 => ?_)
  unfold m63o at h
  refine AWP.seq ?_
  refine AWP.region (.cons (.assign (lt1 rfl) (.const _ _ _))<| ARun.nil _ _ _) ?_
  refine AWP.vc (s' := ⟨[(0,.rd β1 a0.length (a0.flatMap (encI .i64)))],[]⟩) (VC.sub (.c rfl<| .n _) (.n _)) ?_
  refine AWP.seq ?_
  refine AWP.seq ?_
  refine AWP.regionE (S := fun q_1 => ⟨[(0,.rd β1 a0.length (a0.flatMap (encI .i64))),(4,.sc (.bool (decide (a0.length = 0 ∧ q_1 = 0))))],[]⟩) (.cons (.move (lt1 rfl) (.tmp rfl))<| .consE (AStepE.eqNil0 (lt1 rfl) (.tmp rfl) Try.underlying28)<| fun q_1 => ARunE.nilV q_1 (VC.sub (.c rfl<| .c rfl<| .n _) (.n _))) (fun q_1 => ?_)
  refine AWP.cond (.tmp rfl) (fun hc => ?_) (fun hc => ?_)
  · have h := cloneNil hc h
    refine AWP.seq ?_
    refine AWP.region (.cons (.assign (lt1 rfl) (.const _ _ _))<| ARun.nil _ _ _) ?_
    refine AWP.ret ?_
    obtain rfl := Option.some.inj h
    refine retJ (Res.vc (s' := ⟨[(2,.own 1 1 0 ([] : List Int).length)],[(1,⟨3,true,([] : List Int).flatMap (encI .i64)⟩)]⟩) (VC.trans (VC.nilOwn (d := 2) (t := 1) (sz := 1) (E := 3) rfl (nm rfl)) (VC.sub (.c rfl<| .n _) (.c rfl<| .n _))) ?_)
    refine Res.sub (H := [(1,⟨3,true,([] : List Int).flatMap (encI .i64)⟩)]) (.c rfl<| .n _) ?_
    exact Res.of rfl (.cons (.tmp rfl) (.nil)) rfl rfl
  · refine AWP.skip ?_
    refine AWP.seq ?_
    obtain ⟨l1_2,hl1_2,h⟩ := bindS h
    refine AWP.region (.cons (.buildSlice (t := 1) (out := ([] : List Int).flatMap (encI .i64)) (lt1 rfl) (nm rfl) (.nil) Try.underlying28 zero3 el3 (by decide) (by decide) rfl (still_all (encI_still .i64) _))<| .cons (.move (lt1 rfl) (.tmp rfl))<| .cons (.app (enc := (encI .i64)) (lt1 rfl) (nm rfl) (.tmp rfl) (Src.rd (.tmp rfl) (flatMap_length (encI_len .i64) _) (one_all (encI_one .i64) _) (.inr (scal_all (encI_scal .i64) _))) Try.underlying28 ⟨_,Try.underlying28,by intro k hk; cases hk⟩ el3 rfl (encI_len .i64) rfl rfl (by decide) hl1_2)<| .cons (.assign (lt1 rfl) (.tmp rfl))<| ARun.nil _ _ _) ?_
    refine AWP.ret ?_
    obtain rfl := Option.some.inj h
    refine retJ (Res.vc (s' := ⟨[(2,.own 1 1 0 l1_2.length)],[(1,⟨3,true,l1_2.flatMap (encI .i64)⟩)]⟩) (VC.sub (.c rfl<| .n _) (.c rfl<| .n _)) ?_)
    refine Res.sub (H := [(1,⟨3,true,l1_2.flatMap (encI .i64)⟩)]) (.c rfl<| .n _) ?_
    exact Res.of rfl (.cons (.tmp rfl) (.nil)) rfl rfl
theorem c73 {β1 : Bool} (n : Nat) (a0 : (List Int)) (a1 : Int) {r : Bool} (h : m73 n a0 a1 = some r) : Spec Try.prog 73 [] [.rd β1 a0.length (a0.flatMap (encI .i64)),.sc (.int .i64 a1)] [] (.sc (.bool r)) [] := by
  refine Spec.of (fn := Try.f73) Try.func73 Try.ntmps73 rfl rfl (le1 rfl) (fun w0 Zs Zb T0 ι0 => ?_)
  unfold m73 at h
  refine AWP.seq ?_
  refine AWP.region (.cons (.assign (lt1 rfl) (.const _ _ _))<| ARun.nil _ _ _) ?_
  refine AWP.vc (s' := ⟨[(0,.rd β1 a0.length (a0.flatMap (encI .i64))),(1,.sc (.int .i64 a1))],[]⟩) (VC.sub (.c rfl<| .c rfl<| .n _) (.n _)) ?_
  refine AWP.seq ?_
  refine AWP.seq ?_
  refine AWP.region (.cons (.assign (lt1 rfl) (.const _ _ _))<| ARun.nil _ _ _) ?_
  refine AWP.vc (s' := ⟨[(0,.rd β1 a0.length (a0.flatMap (encI .i64))),(1,.sc (.int .i64 a1)),(5,.sc (.int .i64 (0 : Int)))],[]⟩) (VC.sub (.c rfl<| .c rfl<| .c rfl<| .n _) (.n _)) ?_
  refine AWP.joinB' (S := fun p_8 : Unit => ⟨[],[]⟩) h (fun p_8 h => ?_) (fun k_9 h => ?_)
  · refine AWP.seq ?_
    refine AWP.region (.cons (.assign (lt1 rfl) (.const _ _ _))<| ARun.nil _ _ _) ?_
    refine AWP.ret ?_
    obtain rfl := Option.some.inj h
    refine retJ (Res.vc (s' := ⟨[(4,.sc (.bool false))],[]⟩) (VC.sub (.c rfl<| .n _) (.n _)) ?_)
    refine Res.drop (H := []) rfl ?_
    exact Res.of rfl (.cons (.tmp rfl) (.nil)) rfl rfl
  · refine AWP.vc (s' := ⟨[(0,.rd β1 a0.length (a0.flatMap (encI .i64))),(1,.sc (.int .i64 a1)),(5,.sc (.int .i64 (0 : Int)))],[]⟩) (VC.sub (.c rfl<| .c rfl<| .c rfl<| .n _) (.n _)) ?_
    refine AWP.loopM (S := fun x_4 : Int => ⟨[(0,.rd β1 a0.length (a0.flatMap (encI .i64))),(1,.sc (.int .i64 a1)),(5,.sc (.int .i64 x_4))],[]⟩) (x := (0 : Int)) (fun nx_5 x_4 h => ?_) h
    unfold m73_L1 at h
    refine AWP.seq ?_
    refine AWP.seq ?_
    refine AWP.region (.cons (.move (lt1 rfl) (.tmp rfl))<| .cons (.move (lt1 rfl) (.tmp rfl))<| .cons (.lenRd (lt1 rfl) (.tmp rfl) Try.underlying28)<| .cons (.lss (lt1 rfl) (.tmp rfl) (.tmp rfl))<| ARun.nil _ _ _) ?_
    refine AWP.vc (s' := ⟨[(0,.rd β1 a0.length (a0.flatMap (encI .i64))),(1,.sc (.int .i64 a1)),(5,.sc (.int .i64 x_4)),(9,.sc (.bool (decide (x_4 < (a0.length : Int)))))],[]⟩) (VC.sub (.c rfl<| .c rfl<| .c rfl<| .c rfl<| .n _) (.n _)) ?_
    refine AWP.cond (.tmp rfl) (fun hc => ?_) (fun hc => ?_)
    · have h := iteT hc h
      refine AWP.skip ?_
      refine AWP.seq ?_
      refine AWP.block ?_
      refine AWP.seq ?_
      obtain ⟨y_6,hy_6,h⟩ := bindS h
      refine AWP.region (.cons (.move (lt1 rfl) (.tmp rfl))<| .cons (.move (lt1 rfl) (.tmp rfl))<| .cons (.indexRd (enc := (encI .i64)) (lt1 rfl) (.tmp rfl) (.tmp rfl) Try.underlying28 sz3 (encI_len .i64) rfl hy_6)<| .cons (.loadR (v := .sc (.int .i64 y_6)) (lt1 rfl) (.tmp rfl) one3 rfl)<| .cons (.move (lt1 rfl) (.tmp rfl))<| .cons (.eql (lt1 rfl) (.tmp rfl) (.tmp rfl))<| ARun.nil _ _ _) ?_
      refine AWP.vc (s' := ⟨[(0,.rd β1 a0.length (a0.flatMap (encI .i64))),(1,.sc (.int .i64 a1)),(5,.sc (.int .i64 x_4)),(17,.sc (.bool (decide (y_6 = a1))))],[]⟩) (VC.sub (.c rfl<| .c rfl<| .c rfl<| .c rfl<| .n _) (.n _)) ?_
      refine AWP.cond (.tmp rfl) (fun hc => ?_) (fun hc => ?_)
      · have h := iteT hc h
        refine AWP.seq ?_
        refine AWP.region (.cons (.assign (lt1 rfl) (.const _ _ _))<| ARun.nil _ _ _) ?_
        refine AWP.ret ?_
        obtain rfl := Option.some.inj h
        refine retJ (Res.vc (s' := ⟨[(4,.sc (.bool true))],[]⟩) (VC.sub (.c rfl<| .n _) (.n _)) ?_)
        refine Res.drop (H := []) rfl ?_
        exact Res.of rfl (.cons (.tmp rfl) (.nil)) rfl rfl
      · have h := iteF hc h
        refine AWP.skip ?_
        obtain ⟨t5_7,ht5_7,h⟩ := letS h
        refine AWP.region (.cons (.move (lt1 rfl) (.tmp rfl))<| .cons (.add (lt1 rfl) (.tmp rfl) (.const _ _ _))<| .cons (.assign (lt1 rfl) (.tmp rfl))<| ARun.nil _ _ _) ?_
        exact endJ t5_7 h (by subst ht5_7; exact VC.sub (.c rfl<| .c rfl<| .c rfl<| .n _) (.n _))
    · have h := iteF hc h
      refine AWP.exit ?_
      exact endJ () h (VC.sub (.n _) (.n _))
theorem c45 {β1 : Bool} {β2 : Bool} {β3 : Bool} (n : Nat) (a0 : R24) (a1 : (List Int)) {r : (List Int)} (h : m45 n a0 a1 = some r) : Spec Try.prog 45 [] [.agg [.rd β1 a0.Points.length (a0.Points.flatMap encR45),.rd β2 a0.Before.length (a0.Before.flatMap encR93)],.rd β3 a1.length (a1.flatMap (encI .i64))] [] (.rd false r.length (r.flatMap (encI .i64))) [] := by
  refine Spec.of (fn := Try.f45) Try.func45 Try.ntmps45 rfl rfl (le1 rfl) (fun w0 Zs Zb T0 ι0 => ?_)
  unfold m45 at h
  refine AWP.seq ?_
  refine AWP.region (.cons (.box (t := 1) (n := 2) (lt1 rfl) (nm rfl) (.tmp rfl) (by first | exact ⟨rfl,rfl⟩ | rfl) rfl)<| .cons (.assign (lt1 rfl) (.const _ _ _))<| ARun.nil _ _ _) ?_
  refine AWP.vc (s' := ⟨[(1,.rd β3 a1.length (a1.flatMap (encI .i64))),(2,.ptr 1 0)],[(1,⟨25,false,[.rd β1 a0.Points.length (a0.Points.flatMap encR45),.rd β2 a0.Before.length (a0.Before.flatMap encR93)]⟩)]⟩) (VC.sub (.c rfl<| .c rfl<| .n _) (.c rfl<| .n _)) ?_
  refine AWP.seq ?_
  refine AWP.region (.cons (.assign (lt1 rfl) (.const _ _ _))<| ARun.nil _ _ _) ?_
  refine AWP.vc (s' := ⟨[(1,.rd β3 a1.length (a1.flatMap (encI .i64))),(2,.ptr 1 0),(5,.sc (.slice none 0 0))],[(1,⟨25,false,[.rd β1 a0.Points.length (a0.Points.flatMap encR45),.rd β2 a0.Before.length (a0.Before.flatMap encR93)]⟩)]⟩) (VC.sub (.c rfl<| .c rfl<| .c rfl<| .n _) (.c rfl<| .n _)) ?_
  refine AWP.seq ?_
  refine AWP.seq ?_
  refine AWP.region (.cons (.assign (lt1 rfl) (.const _ _ _))<| ARun.nil _ _ _) ?_
  refine AWP.vc (s' := ⟨[(1,.rd β3 a1.length (a1.flatMap (encI .i64))),(2,.ptr 1 0),(5,.sc (.slice none 0 0)),(6,.sc (.int .i64 (0 : Int)))],[(1,⟨25,false,[.rd β1 a0.Points.length (a0.Points.flatMap encR45),.rd β2 a0.Before.length (a0.Before.flatMap encR93)]⟩)]⟩) (VC.sub (.c rfl<| .c rfl<| .c rfl<| .c rfl<| .n _) (.c rfl<| .n _)) ?_
  refine AWP.joinB' (S := fun p_74 : (List Int) => ⟨[(5,.own 2 1 0 p_74.length)],[(2,⟨3,true,p_74.flatMap (encI .i64)⟩)]⟩) h (fun p_74 h => ?_) (fun k_75 h => ?_)
  · refine AWP.seq ?_
    refine AWP.region (.cons (.move (lt1 rfl) (.tmp rfl))<| .cons (.assign (lt1 rfl) (.tmp rfl))<| ARun.nil _ _ _) ?_
    refine AWP.ret ?_
    obtain rfl := Option.some.inj h
    refine retJ (Res.vc (s' := ⟨[(4,.rd false p_74.length (p_74.flatMap (encI .i64)))],[]⟩) (VC.trans (VC.frz (d := 4) (t := 2) rfl rfl (encI_len .i64)) (VC.sub (.c rfl<| .n _) (.n _))) ?_)
    refine Res.drop (H := []) rfl ?_
    exact Res.of rfl (.cons (.tmp rfl) (.nil)) rfl rfl
  · refine AWP.vc (VC.nilOwn (d := 5) (t := 2) (sz := 1) (E := 3) rfl (nm rfl)) ?_
    refine AWP.vc (s' := ⟨[(1,.rd β3 a1.length (a1.flatMap (encI .i64))),(2,.ptr 1 0),(5,.own 2 1 0 ([] : List Int).length),(6,.sc (.int .i64 (0 : Int)))],[(1,⟨25,false,[.rd β1 a0.Points.length (a0.Points.flatMap encR45),.rd β2 a0.Before.length (a0.Before.flatMap encR93)]⟩),(2,⟨3,true,([] : List Int).flatMap (encI .i64)⟩)]⟩) (VC.sub (.c rfl<| .c rfl<| .c rfl<| .c rfl<| .n _) (.c rfl<| .c rfl<| .n _)) ?_
    refine AWP.loopM (S := fun x_49 : Int × (List Int) => ⟨[(1,.rd β3 a1.length (a1.flatMap (encI .i64))),(2,.ptr 1 0),(5,.own 2 1 0 x_49.2.length),(6,.sc (.int .i64 x_49.1))],[(1,⟨25,false,[.rd β1 a0.Points.length (a0.Points.flatMap encR45),.rd β2 a0.Before.length (a0.Before.flatMap encR93)]⟩),(2,⟨3,true,x_49.2.flatMap (encI .i64)⟩)]⟩) (x := ((0 : Int),([] : List Int))) (fun nx_50 x_49 h => ?_) h
    unfold m45_L3 at h
    refine AWP.seq ?_
    refine AWP.seq ?_
    refine AWP.region (.cons (.move (lt1 rfl) (.tmp rfl))<| .cons (.fieldP (lt1 rfl) (.tmp rfl) fld25_0)<| .cons (.loadP (lt1 rfl) (.tmp rfl) one22 rfl rfl rfl)<| .cons (.lenRd (lt1 rfl) (.tmp rfl) Try.underlying22)<| .cons (.lss (lt1 rfl) (.tmp rfl) (.tmp rfl))<| ARun.nil _ _ _) ?_
    refine AWP.vc (s' := ⟨[(1,.rd β3 a1.length (a1.flatMap (encI .i64))),(2,.ptr 1 0),(5,.own 2 1 0 x_49.2.length),(6,.sc (.int .i64 x_49.1)),(13,.sc (.bool (decide (x_49.1 < (a0.Points.length : Int)))))],[(1,⟨25,false,[.rd β1 a0.Points.length (a0.Points.flatMap encR45),.rd β2 a0.Before.length (a0.Before.flatMap encR93)]⟩),(2,⟨3,true,x_49.2.flatMap (encI .i64)⟩)]⟩) (VC.sub (.c rfl<| .c rfl<| .c rfl<| .c rfl<| .c rfl<| .n _) (.c rfl<| .c rfl<| .n _)) ?_
    refine AWP.cond (.tmp rfl) (fun hc => ?_) (fun hc => ?_)
    · have h := iteT hc h
      refine AWP.skip ?_
      refine AWP.seq ?_
      refine AWP.block ?_
      refine AWP.seq ?_
      obtain ⟨y_51,hy_51,h⟩ := bindS h
      refine AWP.region (.cons (.move (lt1 rfl) (.tmp rfl))<| .cons (.move (lt1 rfl) (.tmp rfl))<| .cons (.call0 (bw := false) (lt1 rfl) (c73 (β1 := β3) n a1 x_49.1 hy_51) (.cons (.tmp rfl) (.ren rfl) (.cons (.tmp rfl) (.ren rfl) (.nil))) rfl)<| .cons (.not (lt1 rfl) (.tmp rfl))<| .cons (.assign (lt1 rfl) (.tmp rfl))<| ARun.nil _ _ _) ?_
      refine AWP.vc (s' := ⟨[(1,.rd β3 a1.length (a1.flatMap (encI .i64))),(2,.ptr 1 0),(5,.own 2 1 0 x_49.2.length),(6,.sc (.int .i64 x_49.1)),(7,.sc (.bool (!y_51)))],[(1,⟨25,false,[.rd β1 a0.Points.length (a0.Points.flatMap encR45),.rd β2 a0.Before.length (a0.Before.flatMap encR93)]⟩),(2,⟨3,true,x_49.2.flatMap (encI .i64)⟩)]⟩) (VC.sub (.c rfl<| .c rfl<| .c rfl<| .c rfl<| .c rfl<| .n _) (.c rfl<| .c rfl<| .n _)) ?_
      refine AWP.seq ?_
      refine AWP.seq ?_
      refine AWP.region (.cons (.assign (lt1 rfl) (.const _ _ _))<| ARun.nil _ _ _) ?_
      refine AWP.vc (s' := ⟨[(1,.rd β3 a1.length (a1.flatMap (encI .i64))),(2,.ptr 1 0),(5,.own 2 1 0 x_49.2.length),(6,.sc (.int .i64 x_49.1)),(7,.sc (.bool (!y_51))),(8,.sc (.int .i64 (0 : Int)))],[(1,⟨25,false,[.rd β1 a0.Points.length (a0.Points.flatMap encR45),.rd β2 a0.Before.length (a0.Before.flatMap encR93)]⟩),(2,⟨3,true,x_49.2.flatMap (encI .i64)⟩)]⟩) (VC.sub (.c rfl<| .c rfl<| .c rfl<| .c rfl<| .c rfl<| .c rfl<| .n _) (.c rfl<| .c rfl<| .n _)) ?_
      refine AWP.joinB' (S := fun p_68 : Bool => ⟨[(1,.rd β3 a1.length (a1.flatMap (encI .i64))),(2,.ptr 1 0),(5,.own 2 1 0 x_49.2.length),(6,.sc (.int .i64 x_49.1)),(7,.sc (.bool p_68))],[(1,⟨25,false,[.rd β1 a0.Points.length (a0.Points.flatMap encR45),.rd β2 a0.Before.length (a0.Before.flatMap encR93)]⟩),(2,⟨3,true,x_49.2.flatMap (encI .i64)⟩)]⟩) h (fun p_68 h => ?_) (fun k_69 h => ?_)
      · refine AWP.seq ?_
        refine AWP.region (.cons (.move (lt1 rfl) (.tmp rfl))<| ARun.nil _ _ _) ?_
        refine AWP.vc (s' := ⟨[(1,.rd β3 a1.length (a1.flatMap (encI .i64))),(2,.ptr 1 0),(5,.own 2 1 0 x_49.2.length),(6,.sc (.int .i64 x_49.1)),(48,.sc (.bool p_68))],[(1,⟨25,false,[.rd β1 a0.Points.length (a0.Points.flatMap encR45),.rd β2 a0.Before.length (a0.Before.flatMap encR93)]⟩),(2,⟨3,true,x_49.2.flatMap (encI .i64)⟩)]⟩) (VC.sub (.c rfl<| .c rfl<| .c rfl<| .c rfl<| .c rfl<| .n _) (.c rfl<| .c rfl<| .n _)) ?_
        refine AWP.join' (S := fun p_71 : (List Int) => ⟨[(1,.rd β3 a1.length (a1.flatMap (encI .i64))),(2,.ptr 1 0),(5,.own 2 1 0 p_71.length),(6,.sc (.int .i64 x_49.1))],[(1,⟨25,false,[.rd β1 a0.Points.length (a0.Points.flatMap encR45),.rd β2 a0.Before.length (a0.Before.flatMap encR93)]⟩),(2,⟨3,true,p_71.flatMap (encI .i64)⟩)]⟩) h (fun p_71 h => ?_) (fun k_72 h => ?_)
        · obtain ⟨t6_73,ht6_73,h⟩ := letS h
          refine AWP.region (.cons (.move (lt1 rfl) (.tmp rfl))<| .cons (.add (lt1 rfl) (.tmp rfl) (.const _ _ _))<| .cons (.assign (lt1 rfl) (.tmp rfl))<| ARun.nil _ _ _) ?_
          exact endJ (t6_73,p_71) h (by subst ht6_73; exact VC.sub (.c rfl<| .c rfl<| .c rfl<| .c rfl<| .n _) (.c rfl<| .c rfl<| .n _))
        · refine AWP.cond (.tmp rfl) (fun hc => ?_) (fun hc => ?_)
          · have h := iteT hc h
            obtain ⟨l2_70,hl2_70,h⟩ := bindS h
            refine AWP.region (.cons (.move (lt1 rfl) (.tmp rfl))<| .cons (.move (lt1 rfl) (.tmp rfl))<| .cons (.buildSlice (t := 3) (out := ([x_49.1] : List Int).flatMap (encI .i64)) (lt1 rfl) (nm rfl) (.cons (.tmp rfl) (by first | exact ⟨rfl,rfl⟩ | rfl) (.nil)) Try.underlying28 zero3 el3 (by decide) (by decide) rfl (still_all (encI_still .i64) _))<| .cons (.app (enc := (encI .i64)) (lt1 rfl) (nm rfl) (.tmp rfl) (Src.own (.tmp rfl) rfl (lendAll (encI_len .i64) _) (flatMap_length (encI_len .i64) _) (one_all (encI_one .i64) _) (.inl rfl)) Try.underlying28 ⟨_,Try.underlying28,by intro k hk; cases hk⟩ el3 rfl (encI_len .i64) rfl rfl (by decide) hl2_70)<| .cons (.assign (lt1 rfl) (.tmp rfl))<| ARun.nil _ _ _) ?_
            exact endJ l2_70 h (VC.sub (.c rfl<| .c rfl<| .c rfl<| .c rfl<| .n _) (.c rfl<| .c rfl<| .n _))
          · have h := iteF hc h
            refine AWP.skip ?_
            exact endJ x_49.2 h (VC.sub (.c rfl<| .c rfl<| .c rfl<| .c rfl<| .n _) (.c rfl<| .c rfl<| .n _))
      · refine AWP.vc (s' := ⟨[(1,.rd β3 a1.length (a1.flatMap (encI .i64))),(2,.ptr 1 0),(5,.own 2 1 0 x_49.2.length),(6,.sc (.int .i64 x_49.1)),(7,.sc (.bool (!y_51))),(8,.sc (.int .i64 (0 : Int)))],[(1,⟨25,false,[.rd β1 a0.Points.length (a0.Points.flatMap encR45),.rd β2 a0.Before.length (a0.Before.flatMap encR93)]⟩),(2,⟨3,true,x_49.2.flatMap (encI .i64)⟩)]⟩) (VC.sub (.c rfl<| .c rfl<| .c rfl<| .c rfl<| .c rfl<| .c rfl<| .n _) (.c rfl<| .c rfl<| .n _)) ?_
        refine AWP.loopM (S := fun x_62 : Bool × Int => ⟨[(1,.rd β3 a1.length (a1.flatMap (encI .i64))),(2,.ptr 1 0),(5,.own 2 1 0 x_49.2.length),(6,.sc (.int .i64 x_49.1)),(7,.sc (.bool x_62.1)),(8,.sc (.int .i64 x_62.2))],[(1,⟨25,false,[.rd β1 a0.Points.length (a0.Points.flatMap encR45),.rd β2 a0.Before.length (a0.Before.flatMap encR93)]⟩),(2,⟨3,true,x_49.2.flatMap (encI .i64)⟩)]⟩) (x := ((!y_51),(0 : Int))) (fun nx_63 x_62 h => ?_) h
        unfold m45_L4 at h
        refine AWP.seq ?_
        refine AWP.seq ?_
        refine AWP.region (.cons (.move (lt1 rfl) (.tmp rfl))<| .cons (.fieldP (lt1 rfl) (.tmp rfl) fld25_1)<| .cons (.loadP (lt1 rfl) (.tmp rfl) one23 rfl rfl rfl)<| .cons (.lenRd (lt1 rfl) (.tmp rfl) Try.underlying23)<| .cons (.lss (lt1 rfl) (.tmp rfl) (.tmp rfl))<| ARun.nil _ _ _) ?_
        refine AWP.vc (s' := ⟨[(1,.rd β3 a1.length (a1.flatMap (encI .i64))),(2,.ptr 1 0),(5,.own 2 1 0 x_49.2.length),(6,.sc (.int .i64 x_49.1)),(7,.sc (.bool x_62.1)),(8,.sc (.int .i64 x_62.2)),(24,.sc (.bool (decide (x_62.2 < (a0.Before.length : Int)))))],[(1,⟨25,false,[.rd β1 a0.Points.length (a0.Points.flatMap encR45),.rd β2 a0.Before.length (a0.Before.flatMap encR93)]⟩),(2,⟨3,true,x_49.2.flatMap (encI .i64)⟩)]⟩) (VC.sub (.c rfl<| .c rfl<| .c rfl<| .c rfl<| .c rfl<| .c rfl<| .c rfl<| .n _) (.c rfl<| .c rfl<| .n _)) ?_
        refine AWP.cond (.tmp rfl) (fun hc => ?_) (fun hc => ?_)
        · have h := iteT hc h
          refine AWP.skip ?_
          refine AWP.seq ?_
          refine AWP.block ?_
          obtain ⟨y_64,hy_64,h⟩ := bindS h
          obtain ⟨y_65,hy_65,h⟩ := bindS h
          obtain ⟨y_66,hy_66,h⟩ := bindS h
          refine AWP.region (.cons (.move (lt1 rfl) (.tmp rfl))<| .cons (.move (lt1 rfl) (.tmp rfl))<| .guard (j := 1) (dj := 28) rfl (lt1 rfl) rfl (lt1 rfl) (fun hg => .fieldP (lt1 rfl) (.tmp rfl) fld25_1)<| .guard (j := 1) (dj := 28) rfl (lt1 rfl) rfl (lt1 rfl) (fun hg => .loadP (lt1 rfl) (.gd hg (.tmp rfl)) one23 rfl rfl rfl)<| .guard (j := 1) (dj := 28) rfl (lt1 rfl) rfl (lt1 rfl) (fun hg => .move (lt1 rfl) (.tmp rfl))<| .guard (j := 1) (dj := 28) rfl (lt1 rfl) rfl (lt1 rfl) (fun hg => .indexRd (enc := encR93) (lt1 rfl) (.gd hg (.tmp rfl)) (.gd hg (.tmp rfl)) Try.underlying23 sz93 encR93_len rfl (gdB hy_64 hg))<| .guard (j := 1) (dj := 28) rfl (lt1 rfl) rfl (lt1 rfl) (fun hg => .idxR (lt1 rfl) (.gd hg (.tmp rfl)) (.const _ _ _) Try.underlying93 sz3 (by decide) rfl)<| .guard (j := 1) (dj := 28) rfl (lt1 rfl) rfl (lt1 rfl) (fun hg => .loadR (v := .sc (.int .i64 y_64.f1)) (lt1 rfl) (.gd hg (.tmp rfl)) one3 rfl)<| .guard (j := 1) (dj := 28) rfl (lt1 rfl) rfl (lt1 rfl) (fun hg => .move (lt1 rfl) (.tmp rfl))<| .guard (j := 1) (dj := 28) rfl (lt1 rfl) rfl (lt1 rfl) (fun hg => .neq (lt1 rfl) (.gd hg (.tmp rfl)) (.gd hg (.tmp rfl)))<| .guard (j := 1) (dj := 28) rfl (lt1 rfl) rfl (lt1 rfl) (fun hg => .move (lt1 rfl) (.gd hg (.tmp rfl)))<| .guard2 (j := 10) (dj := 37) rfl (lt1 rfl) rfl (lt1 rfl) (fun hg => .move (lt1 rfl) (.tmp rfl))<| .guard2 (j := 10) (dj := 37) rfl (lt1 rfl) rfl (lt1 rfl) (fun hg => .fieldP (lt1 rfl) (.tmp rfl) fld25_1)<| .guard2 (j := 10) (dj := 37) rfl (lt1 rfl) rfl (lt1 rfl) (fun hg => .loadP (lt1 rfl) (.gd hg (.tmp rfl)) one23 rfl rfl rfl)<| .guard2 (j := 10) (dj := 37) rfl (lt1 rfl) rfl (lt1 rfl) (fun hg => .move (lt1 rfl) (.tmp rfl))<| .guard2 (j := 10) (dj := 37) rfl (lt1 rfl) rfl (lt1 rfl) (fun hg => .indexRd (enc := encR93) (lt1 rfl) (.gd hg (.tmp rfl)) (.gd hg (.tmp rfl)) Try.underlying23 sz93 encR93_len rfl (gdB hy_65 hg))<| .guard2 (j := 10) (dj := 37) rfl (lt1 rfl) rfl (lt1 rfl) (fun hg => .idxR (lt1 rfl) (.gd hg (.tmp rfl)) (.const _ _ _) Try.underlying93 sz3 (by decide) rfl)<| .guard2 (j := 10) (dj := 37) rfl (lt1 rfl) rfl (lt1 rfl) (fun hg => .loadR (v := .sc (.int .i64 y_65.f0)) (lt1 rfl) (.gd hg (.tmp rfl)) one3 rfl)<| .guard2 (j := 10) (dj := 37) rfl (lt1 rfl) rfl (lt1 rfl) (fun hg => .call0 (bw := false) (lt1 rfl) (c73 (β1 := β3) n a1 y_65.f0 (gdB hy_66 hg)) (.cons (.gd hg (.tmp rfl)) (.ren rfl) (.cons (.gd hg (.tmp rfl)) (.ren rfl) (.nil))) rfl)<| .guard (j := 1) (dj := 28) rfl (lt1 rfl) rfl (lt1 rfl) (fun hg => .pickOr (lt1 rfl) (.gd hg (.tmp rfl)) (.const _ _ _) (.gdAnd hg (.tmp rfl)))<| .cons (.pickAnd (lt1 rfl) (.tmp rfl) (.tmp rfl) (.const _ _ _))<| .cons (.assign (lt1 rfl) (.tmp rfl))<| ARun.nil _ _ _) ?_
          refine AWP.vc (s' := ⟨[(1,.rd β3 a1.length (a1.flatMap (encI .i64))),(2,.ptr 1 0),(5,.own 2 1 0 x_49.2.length),(6,.sc (.int .i64 x_49.1)),(7,.sc (.bool (x_62.1 && ((!decide (y_64.f1 = x_49.1)) || y_66)))),(8,.sc (.int .i64 x_62.2))],[(1,⟨25,false,[.rd β1 a0.Points.length (a0.Points.flatMap encR45),.rd β2 a0.Before.length (a0.Before.flatMap encR93)]⟩),(2,⟨3,true,x_49.2.flatMap (encI .i64)⟩)]⟩) (VC.sub (.c rfl<| .c rfl<| .c rfl<| .c rfl<| .c rfl<| .c rfl<| .n _) (.c rfl<| .c rfl<| .n _)) ?_
          obtain ⟨t8_67,ht8_67,h⟩ := letS h
          refine AWP.region (.cons (.move (lt1 rfl) (.tmp rfl))<| .cons (.add (lt1 rfl) (.tmp rfl) (.const _ _ _))<| .cons (.assign (lt1 rfl) (.tmp rfl))<| ARun.nil _ _ _) ?_
          exact endJ ((x_62.1 && ((!decide (y_64.f1 = x_49.1)) || y_66)),t8_67) h (by subst ht8_67; exact VC.sub (.c rfl<| .c rfl<| .c rfl<| .c rfl<| .c rfl<| .c rfl<| .n _) (.c rfl<| .c rfl<| .n _))
        · have h := iteF hc h
          refine AWP.exit ?_
          exact endJ x_62.1 h (VC.sub (.c rfl<| .c rfl<| .c rfl<| .c rfl<| .c rfl<| .n _) (.c rfl<| .c rfl<| .n _))
    · have h := iteF hc h
      refine AWP.exit ?_
      exact endJ x_49.2 h (VC.sub (.c rfl<| .n _) (.c rfl<| .n _))
theorem c15 {β1 : Bool} {β2 : Bool} (n : Nat) (a0 : R24) {r : Bool} (h : m15 n a0 = some r) : Spec Try.prog 15 [] [.agg [.rd β1 a0.Points.length (a0.Points.flatMap encR45),.rd β2 a0.Before.length (a0.Before.flatMap encR93)]] [] (.sc (.bool r)) [] := by
  refine Spec.of (fn := Try.f15) Try.func15 Try.ntmps15 rfl rfl (le1 rfl) (fun w0 Zs Zb T0 ι0 => ?_)
  unfold m15 at h
  refine AWP.seq ?_
  refine AWP.region (.cons (.box (t := 1) (n := 2) (lt1 rfl) (nm rfl) (.tmp rfl) (by first | exact ⟨rfl,rfl⟩ | rfl) rfl)<| .cons (.assign (lt1 rfl) (.const _ _ _))<| ARun.nil _ _ _) ?_
  refine AWP.vc (s' := ⟨[(1,.ptr 1 0)],[(1,⟨25,false,[.rd β1 a0.Points.length (a0.Points.flatMap encR45),.rd β2 a0.Before.length (a0.Before.flatMap encR93)]⟩)]⟩) (VC.sub (.c rfl<| .n _) (.c rfl<| .n _)) ?_
  refine AWP.seq ?_
  refine AWP.region (.cons (.fieldP (lt1 rfl) (.tmp rfl) fld25_0)<| .cons (.loadP (lt1 rfl) (.tmp rfl) one22 rfl rfl rfl)<| .cons (.lenRd (lt1 rfl) (.tmp rfl) Try.underlying22)<| .cons (.assign (lt1 rfl) (.tmp rfl))<| ARun.nil _ _ _) ?_
  refine AWP.vc (s' := ⟨[(1,.ptr 1 0),(3,.sc (.int .i64 (a0.Points.length : Int)))],[(1,⟨25,false,[.rd β1 a0.Points.length (a0.Points.flatMap encR45),.rd β2 a0.Before.length (a0.Before.flatMap encR93)]⟩)]⟩) (VC.sub (.c rfl<| .c rfl<| .n _) (.c rfl<| .n _)) ?_
  refine AWP.seq ?_
  refine AWP.seq ?_
  refine AWP.region (.cons (.move (lt1 rfl) (.tmp rfl))<| .cons (.lss (lt1 rfl) (.tmp rfl) (.const _ _ _))<| .cons (.move (lt1 rfl) (.tmp rfl))<| .guard (j := 2) (dj := 15) rfl (lt1 rfl) rfl (lt1 rfl) (fun hg => .move (lt1 rfl) (.tmp rfl))<| .guard (j := 2) (dj := 15) rfl (lt1 rfl) rfl (lt1 rfl) (fun hg => .gtr (lt1 rfl) (.gd hg (.tmp rfl)) (.const _ _ _))<| .cons (.pickOr (lt1 rfl) (.tmp rfl) (.const _ _ _) (.tmp rfl))<| .cons (.move (lt1 rfl) (.tmp rfl))<| .guard (j := 6) (dj := 19) rfl (lt1 rfl) rfl (lt1 rfl) (fun hg => .fieldP (lt1 rfl) (.tmp rfl) fld25_1)<| .guard (j := 6) (dj := 19) rfl (lt1 rfl) rfl (lt1 rfl) (fun hg => .loadP (lt1 rfl) (.gd hg (.tmp rfl)) one23 rfl rfl rfl)<| .guard (j := 6) (dj := 19) rfl (lt1 rfl) rfl (lt1 rfl) (fun hg => .lenRd (lt1 rfl) (.gd hg (.tmp rfl)) Try.underlying23)<| .guard (j := 6) (dj := 19) rfl (lt1 rfl) rfl (lt1 rfl) (fun hg => .gtr (lt1 rfl) (.gd hg (.tmp rfl)) (.const _ _ _))<| .cons (.pickOr (lt1 rfl) (.tmp rfl) (.const _ _ _) (.tmp rfl))<| ARun.nil _ _ _) ?_
  refine AWP.vc (s' := ⟨[(1,.ptr 1 0),(3,.sc (.int .i64 (a0.Points.length : Int))),(24,.sc (.bool (((decide ((a0.Points.length : Int) < (1 : Int))) || (decide ((60 : Int) < (a0.Points.length : Int)))) || (decide ((200 : Int) < (a0.Before.length : Int))))))],[(1,⟨25,false,[.rd β1 a0.Points.length (a0.Points.flatMap encR45),.rd β2 a0.Before.length (a0.Before.flatMap encR93)]⟩)]⟩) (VC.sub (.c rfl<| .c rfl<| .c rfl<| .n _) (.c rfl<| .n _)) ?_
  refine AWP.cond (.tmp rfl) (fun hc => ?_) (fun hc => ?_)
  · have h := iteT hc h
    refine AWP.seq ?_
    refine AWP.region (.cons (.assign (lt1 rfl) (.const _ _ _))<| ARun.nil _ _ _) ?_
    refine AWP.ret ?_
    obtain rfl := Option.some.inj h
    refine retJ (Res.vc (s' := ⟨[(2,.sc (.bool false))],[]⟩) (VC.sub (.c rfl<| .n _) (.n _)) ?_)
    refine Res.drop (H := []) rfl ?_
    exact Res.of rfl (.cons (.tmp rfl) (.nil)) rfl rfl
  · have h := iteF hc h
    refine AWP.skip ?_
    refine AWP.seq ?_
    refine AWP.seq ?_
    refine AWP.region (.cons (.assign (lt1 rfl) (.const _ _ _))<| ARun.nil _ _ _) ?_
    refine AWP.vc (s' := ⟨[(1,.ptr 1 0),(3,.sc (.int .i64 (a0.Points.length : Int))),(4,.sc (.int .i64 (0 : Int)))],[(1,⟨25,false,[.rd β1 a0.Points.length (a0.Points.flatMap encR45),.rd β2 a0.Before.length (a0.Before.flatMap encR93)]⟩)]⟩) (VC.sub (.c rfl<| .c rfl<| .c rfl<| .n _) (.c rfl<| .n _)) ?_
    refine AWP.joinB' (S := fun p_8 : Unit => ⟨[(1,.ptr 1 0),(3,.sc (.int .i64 (a0.Points.length : Int)))],[(1,⟨25,false,[.rd β1 a0.Points.length (a0.Points.flatMap encR45),.rd β2 a0.Before.length (a0.Before.flatMap encR93)]⟩)]⟩) h (fun p_8 h => ?_) (fun k_9 h => ?_)
    · refine AWP.seq ?_
      refine AWP.seq ?_
      refine AWP.region (.cons (.assign (lt1 rfl) (.const _ _ _))<| ARun.nil _ _ _) ?_
      refine AWP.vc (s' := ⟨[(1,.ptr 1 0),(3,.sc (.int .i64 (a0.Points.length : Int))),(6,.sc (.int .i64 (0 : Int)))],[(1,⟨25,false,[.rd β1 a0.Points.length (a0.Points.flatMap encR45),.rd β2 a0.Before.length (a0.Before.flatMap encR93)]⟩)]⟩) (VC.sub (.c rfl<| .c rfl<| .c rfl<| .n _) (.c rfl<| .n _)) ?_
      refine AWP.joinB' (S := fun p_19 : Unit => ⟨[(1,.ptr 1 0),(3,.sc (.int .i64 (a0.Points.length : Int)))],[(1,⟨25,false,[.rd β1 a0.Points.length (a0.Points.flatMap encR45),.rd β2 a0.Before.length (a0.Before.flatMap encR93)]⟩)]⟩) h (fun p_19 h => ?_) (fun k_20 h => ?_)
      · refine AWP.seq ?_
        refine AWP.region (.cons (.buildSlice (t := 4) (out := ([(0 : Int)] : List Int).flatMap (encI .i64)) (lt1 rfl) (nm rfl) (.cons (.const _ _ _) (by first | exact ⟨rfl,rfl⟩ | rfl) (.nil)) Try.underlying28 zero3 el3 (by decide) (by decide) rfl (still_all (encI_still .i64) _))<| .cons (.assign (lt1 rfl) (.tmp rfl))<| ARun.nil _ _ _) ?_
        refine AWP.vc (s' := ⟨[(1,.ptr 1 0),(3,.sc (.int .i64 (a0.Points.length : Int))),(8,.own 4 1 0 ([(0 : Int)] : List Int).length)],[(4,⟨3,true,([(0 : Int)] : List Int).flatMap (encI .i64)⟩),(1,⟨25,false,[.rd β1 a0.Points.length (a0.Points.flatMap encR45),.rd β2 a0.Before.length (a0.Before.flatMap encR93)]⟩)]⟩) (VC.sub (.c rfl<| .c rfl<| .c rfl<| .n _) (.c rfl<| .c rfl<| .n _)) ?_
        refine AWP.seq ?_
        refine AWP.joinB' (S := fun p_34 : Unit => ⟨[],[]⟩) h (fun p_34 h => ?_) (fun k_35 h => ?_)
        · refine AWP.seq ?_
          refine AWP.region (.cons (.assign (lt1 rfl) (.const _ _ _))<| ARun.nil _ _ _) ?_
          refine AWP.ret ?_
          obtain rfl := Option.some.inj h
          refine retJ (Res.vc (s' := ⟨[(2,.sc (.bool true))],[]⟩) (VC.sub (.c rfl<| .n _) (.n _)) ?_)
          refine Res.drop (H := []) rfl ?_
          exact Res.of rfl (.cons (.tmp rfl) (.nil)) rfl rfl
        · refine AWP.vc (s' := ⟨[(1,.ptr 1 0),(3,.sc (.int .i64 (a0.Points.length : Int))),(8,.own 4 1 0 ([(0 : Int)] : List Int).length)],[(1,⟨25,false,[.rd β1 a0.Points.length (a0.Points.flatMap encR45),.rd β2 a0.Before.length (a0.Before.flatMap encR93)]⟩),(4,⟨3,true,([(0 : Int)] : List Int).flatMap (encI .i64)⟩)]⟩) (VC.sub (.c rfl<| .c rfl<| .c rfl<| .n _) (.c rfl<| .c rfl<| .n _)) ?_
          refine AWP.loopM (S := fun x_29 : (List Int) => ⟨[(1,.ptr 1 0),(3,.sc (.int .i64 (a0.Points.length : Int))),(8,.own 4 1 0 x_29.length)],[(1,⟨25,false,[.rd β1 a0.Points.length (a0.Points.flatMap encR45),.rd β2 a0.Before.length (a0.Before.flatMap encR93)]⟩),(4,⟨3,true,x_29.flatMap (encI .i64)⟩)]⟩) (x := ([(0 : Int)] : List Int)) (fun nx_30 x_29 h => ?_) h
          unfold m15_L3 at h
          refine AWP.seq ?_
          refine AWP.seq ?_
          refine AWP.region (.cons (.move (lt1 rfl) (.tmp rfl))<| .cons (.lenOwn (lt1 rfl) (.tmp rfl) Try.underlying28)<| .cons (.move (lt1 rfl) (.tmp rfl))<| .cons (.lss (lt1 rfl) (.tmp rfl) (.tmp rfl))<| ARun.nil _ _ _) ?_
          refine AWP.vc (s' := ⟨[(1,.ptr 1 0),(3,.sc (.int .i64 (a0.Points.length : Int))),(8,.own 4 1 0 x_29.length),(96,.sc (.bool (decide ((x_29.length : Int) < (a0.Points.length : Int)))))],[(1,⟨25,false,[.rd β1 a0.Points.length (a0.Points.flatMap encR45),.rd β2 a0.Before.length (a0.Before.flatMap encR93)]⟩),(4,⟨3,true,x_29.flatMap (encI .i64)⟩)]⟩) (VC.sub (.c rfl<| .c rfl<| .c rfl<| .c rfl<| .n _) (.c rfl<| .c rfl<| .n _)) ?_
          refine AWP.cond (.tmp rfl) (fun hc => ?_) (fun hc => ?_)
          · have h := iteT hc h
            refine AWP.skip ?_
            refine AWP.block ?_
            refine AWP.seq ?_
            obtain ⟨y_31,hy_31,h⟩ := bindS h
            refine AWP.region (.cons (.loadPA (lt1 rfl) (.tmp rfl) agg25 rfl rfl rfl rfl)<| .cons (.move (lt1 rfl) (.tmp rfl))<| .cons (.call0 (bw := true) (lt1 rfl) (c45 (β1 := β1) (β2 := β2) (β3 := true) n (R24.mk a0.Points a0.Before) x_29 hy_31) (.cons (.tmp rfl) (.ren rfl) (.cons (.tmp rfl) (.lendRow rfl rfl (encI_len .i64) rfl) (.nil))) rfl)<| .cons (.assign (lt1 rfl) (.tmp rfl))<| ARun.nil _ _ _) ?_
            refine AWP.vc (s' := ⟨[(1,.ptr 1 0),(3,.sc (.int .i64 (a0.Points.length : Int))),(8,.own 4 1 0 x_29.length),(9,.rd false y_31.length (y_31.flatMap (encI .i64)))],[(1,⟨25,false,[.rd β1 a0.Points.length (a0.Points.flatMap encR45),.rd β2 a0.Before.length (a0.Before.flatMap encR93)]⟩),(4,⟨3,true,x_29.flatMap (encI .i64)⟩)]⟩) (VC.sub (.c rfl<| .c rfl<| .c rfl<| .c rfl<| .n _) (.c rfl<| .c rfl<| .n _)) ?_
            refine AWP.seq ?_
            refine AWP.seq ?_
            refine AWP.region (.cons (.move (lt1 rfl) (.tmp rfl))<| .cons (.lenRd (lt1 rfl) (.tmp rfl) Try.underlying28)<| .cons (.eql (lt1 rfl) (.tmp rfl) (.const _ _ _))<| ARun.nil _ _ _) ?_
            refine AWP.vc (s' := ⟨[(1,.ptr 1 0),(3,.sc (.int .i64 (a0.Points.length : Int))),(8,.own 4 1 0 x_29.length),(9,.rd false y_31.length (y_31.flatMap (encI .i64))),(102,.sc (.bool (decide ((y_31.length : Int) = (0 : Int)))))],[(1,⟨25,false,[.rd β1 a0.Points.length (a0.Points.flatMap encR45),.rd β2 a0.Before.length (a0.Before.flatMap encR93)]⟩),(4,⟨3,true,x_29.flatMap (encI .i64)⟩)]⟩) (VC.sub (.c rfl<| .c rfl<| .c rfl<| .c rfl<| .c rfl<| .n _) (.c rfl<| .c rfl<| .n _)) ?_
            refine AWP.cond (.tmp rfl) (fun hc => ?_) (fun hc => ?_)
            · have h := iteT hc h
              refine AWP.seq ?_
              refine AWP.region (.cons (.assign (lt1 rfl) (.const _ _ _))<| ARun.nil _ _ _) ?_
              refine AWP.ret ?_
              obtain rfl := Option.some.inj h
              refine retJ (Res.vc (s' := ⟨[(2,.sc (.bool false))],[]⟩) (VC.sub (.c rfl<| .n _) (.n _)) ?_)
              refine Res.drop (H := []) rfl ?_
              exact Res.of rfl (.cons (.tmp rfl) (.nil)) rfl rfl
            · have h := iteF hc h
              refine AWP.skip ?_
              obtain ⟨y_32,hy_32,h⟩ := bindS h
              obtain ⟨l4_33,hl4_33,h⟩ := bindS h
              refine AWP.region (.cons (.move (lt1 rfl) (.tmp rfl))<| .cons (.move (lt1 rfl) (.tmp rfl))<| .cons (.indexRd (enc := (encI .i64)) (lt1 rfl) (.tmp rfl) (.const _ _ _) Try.underlying28 sz3 (encI_len .i64) rfl hy_32)<| .cons (.loadR (v := .sc (.int .i64 y_32)) (lt1 rfl) (.tmp rfl) one3 rfl)<| .cons (.buildSlice (t := 5) (out := ([y_32] : List Int).flatMap (encI .i64)) (lt1 rfl) (nm rfl) (.cons (.tmp rfl) (by first | exact ⟨rfl,rfl⟩ | rfl) (.nil)) Try.underlying28 zero3 el3 (by decide) (by decide) rfl (still_all (encI_still .i64) _))<| .cons (.app (enc := (encI .i64)) (lt1 rfl) (nm rfl) (.tmp rfl) (Src.own (.tmp rfl) rfl (lendAll (encI_len .i64) _) (flatMap_length (encI_len .i64) _) (one_all (encI_one .i64) _) (.inl rfl)) Try.underlying28 ⟨_,Try.underlying28,by intro k hk; cases hk⟩ el3 rfl (encI_len .i64) rfl rfl (by decide) hl4_33)<| .cons (.assign (lt1 rfl) (.tmp rfl))<| ARun.nil _ _ _) ?_
              exact endJ l4_33 h (VC.sub (.c rfl<| .c rfl<| .c rfl<| .n _) (.c rfl<| .c rfl<| .n _))
          · have h := iteF hc h
            refine AWP.exit ?_
            exact endJ () h (VC.sub (.n _) (.n _))
      · refine AWP.vc (s' := ⟨[(1,.ptr 1 0),(3,.sc (.int .i64 (a0.Points.length : Int))),(6,.sc (.int .i64 (0 : Int)))],[(1,⟨25,false,[.rd β1 a0.Points.length (a0.Points.flatMap encR45),.rd β2 a0.Before.length (a0.Before.flatMap encR93)]⟩)]⟩) (VC.sub (.c rfl<| .c rfl<| .c rfl<| .n _) (.c rfl<| .n _)) ?_
        refine AWP.loopM (S := fun x_14 : Int => ⟨[(1,.ptr 1 0),(3,.sc (.int .i64 (a0.Points.length : Int))),(6,.sc (.int .i64 x_14))],[(1,⟨25,false,[.rd β1 a0.Points.length (a0.Points.flatMap encR45),.rd β2 a0.Before.length (a0.Before.flatMap encR93)]⟩)]⟩) (x := (0 : Int)) (fun nx_15 x_14 h => ?_) h
        unfold m15_L2 at h
        refine AWP.seq ?_
        refine AWP.seq ?_
        refine AWP.region (.cons (.move (lt1 rfl) (.tmp rfl))<| .cons (.fieldP (lt1 rfl) (.tmp rfl) fld25_1)<| .cons (.loadP (lt1 rfl) (.tmp rfl) one23 rfl rfl rfl)<| .cons (.lenRd (lt1 rfl) (.tmp rfl) Try.underlying23)<| .cons (.lss (lt1 rfl) (.tmp rfl) (.tmp rfl))<| ARun.nil _ _ _) ?_
        refine AWP.vc (s' := ⟨[(1,.ptr 1 0),(3,.sc (.int .i64 (a0.Points.length : Int))),(6,.sc (.int .i64 x_14)),(57,.sc (.bool (decide (x_14 < (a0.Before.length : Int)))))],[(1,⟨25,false,[.rd β1 a0.Points.length (a0.Points.flatMap encR45),.rd β2 a0.Before.length (a0.Before.flatMap encR93)]⟩)]⟩) (VC.sub (.c rfl<| .c rfl<| .c rfl<| .c rfl<| .n _) (.c rfl<| .n _)) ?_
        refine AWP.cond (.tmp rfl) (fun hc => ?_) (fun hc => ?_)
        · have h := iteT hc h
          refine AWP.skip ?_
          refine AWP.seq ?_
          refine AWP.block ?_
          refine AWP.seq ?_
          obtain ⟨y_16,hy_16,h⟩ := bindS h
          refine AWP.region (.cons (.fieldP (lt1 rfl) (.tmp rfl) fld25_1)<| .cons (.loadP (lt1 rfl) (.tmp rfl) one23 rfl rfl rfl)<| .cons (.move (lt1 rfl) (.tmp rfl))<| .cons (.indexRd (enc := encR93) (lt1 rfl) (.tmp rfl) (.tmp rfl) Try.underlying23 sz93 encR93_len rfl hy_16)<| .cons (.loadRA (out := [.sc (.int .i64 y_16.f0),.sc (.int .i64 y_16.f1)]) (lt1 rfl) (.tmp rfl) agg93 (Nat.le_of_eq (Eq.symm (encR93_len _))) rfl)<| .cons (.alloc (t := 3) (k := ⟨93,false,[.sc (.int .i64 (0 : Int)),.sc (.int .i64 (0 : Int))]⟩) (lt1 rfl) (nm rfl) zero93 rfl rfl)<| .cons (.storePA (.tmp rfl) (.tmp rfl) sz93 rfl rfl (le1 rfl) (one_lit rfl) (by intro h; cases h) rfl)<| ARun.nil _ _ _) ?_
          refine AWP.vc (s' := ⟨[(1,.ptr 1 0),(3,.sc (.int .i64 (a0.Points.length : Int))),(6,.sc (.int .i64 x_14)),(7,.ptr 3 0)],[(3,⟨93,false,[.sc (.int .i64 y_16.f0),.sc (.int .i64 y_16.f1)]⟩),(1,⟨25,false,[.rd β1 a0.Points.length (a0.Points.flatMap encR45),.rd β2 a0.Before.length (a0.Before.flatMap encR93)]⟩)]⟩) (VC.sub (.c rfl<| .c rfl<| .c rfl<| .c rfl<| .n _) (.c rfl<| .c rfl<| .n _)) ?_
          refine AWP.seq ?_
          obtain ⟨t91_17,ht91_17,h⟩ := letS h
          refine AWP.region (.cons (.idxP (lt1 rfl) (.tmp rfl) (.const _ _ _) Try.underlying93 sz3 (by decide) rfl)<| .cons (.loadP (lt1 rfl) (.tmp rfl) one3 rfl rfl rfl)<| .cons (.lss (lt1 rfl) (.tmp rfl) (.const _ _ _))<| .cons (.move (lt1 rfl) (.tmp rfl))<| .guard (j := 3) (dj := 68) rfl (lt1 rfl) rfl (lt1 rfl) (fun hg => .idxP (lt1 rfl) (.tmp rfl) (.const _ _ _) Try.underlying93 sz3 (by decide) rfl)<| .guard (j := 3) (dj := 68) rfl (lt1 rfl) rfl (lt1 rfl) (fun hg => .loadP (lt1 rfl) (.gd hg (.tmp rfl)) one3 rfl rfl rfl)<| .guard (j := 3) (dj := 68) rfl (lt1 rfl) rfl (lt1 rfl) (fun hg => .move (lt1 rfl) (.tmp rfl))<| .guard (j := 3) (dj := 68) rfl (lt1 rfl) rfl (lt1 rfl) (fun hg => .geq (lt1 rfl) (.gd hg (.tmp rfl)) (.gd hg (.tmp rfl)))<| .cons (.pickOr (lt1 rfl) (.tmp rfl) (.const _ _ _) (.tmp rfl))<| .cons (.move (lt1 rfl) (.tmp rfl))<| .guard (j := 9) (dj := 74) rfl (lt1 rfl) rfl (lt1 rfl) (fun hg => .idxP (lt1 rfl) (.tmp rfl) (.const _ _ _) Try.underlying93 sz3 (by decide) rfl)<| .guard (j := 9) (dj := 74) rfl (lt1 rfl) rfl (lt1 rfl) (fun hg => .loadP (lt1 rfl) (.gd hg (.tmp rfl)) one3 rfl rfl rfl)<| .guard (j := 9) (dj := 74) rfl (lt1 rfl) rfl (lt1 rfl) (fun hg => .lss (lt1 rfl) (.gd hg (.tmp rfl)) (.const _ _ _))<| .cons (.pickOr (lt1 rfl) (.tmp rfl) (.const _ _ _) (.tmp rfl))<| .cons (.move (lt1 rfl) (.tmp rfl))<| .guard (j := 14) (dj := 79) rfl (lt1 rfl) rfl (lt1 rfl) (fun hg => .idxP (lt1 rfl) (.tmp rfl) (.const _ _ _) Try.underlying93 sz3 (by decide) rfl)<| .guard (j := 14) (dj := 79) rfl (lt1 rfl) rfl (lt1 rfl) (fun hg => .loadP (lt1 rfl) (.gd hg (.tmp rfl)) one3 rfl rfl rfl)<| .guard (j := 14) (dj := 79) rfl (lt1 rfl) rfl (lt1 rfl) (fun hg => .move (lt1 rfl) (.tmp rfl))<| .guard (j := 14) (dj := 79) rfl (lt1 rfl) rfl (lt1 rfl) (fun hg => .geq (lt1 rfl) (.gd hg (.tmp rfl)) (.gd hg (.tmp rfl)))<| .cons (.pickOr (lt1 rfl) (.tmp rfl) (.const _ _ _) (.tmp rfl))<| .cons (.move (lt1 rfl) (.tmp rfl))<| .guard (j := 20) (dj := 85) rfl (lt1 rfl) rfl (lt1 rfl) (fun hg => .idxP (lt1 rfl) (.tmp rfl) (.const _ _ _) Try.underlying93 sz3 (by decide) rfl)<| .guard (j := 20) (dj := 85) rfl (lt1 rfl) rfl (lt1 rfl) (fun hg => .loadP (lt1 rfl) (.gd hg (.tmp rfl)) one3 rfl rfl rfl)<| .guard (j := 20) (dj := 85) rfl (lt1 rfl) rfl (lt1 rfl) (fun hg => .idxP (lt1 rfl) (.tmp rfl) (.const _ _ _) Try.underlying93 sz3 (by decide) rfl)<| .guard (j := 20) (dj := 85) rfl (lt1 rfl) rfl (lt1 rfl) (fun hg => .loadP (lt1 rfl) (.gd hg (.tmp rfl)) one3 rfl rfl rfl)<| .guard (j := 20) (dj := 85) rfl (lt1 rfl) rfl (lt1 rfl) (fun hg => .eql (lt1 rfl) (.gd hg (.tmp rfl)) (.gd hg (.tmp rfl)))<| .cons (.pickOr (lt1 rfl) (.tmp rfl) (.const _ _ _) (.tmp rfl))<| ARun.nil _ _ _) ?_
          refine AWP.vc (s' := ⟨[(1,.ptr 1 0),(3,.sc (.int .i64 (a0.Points.length : Int))),(6,.sc (.int .i64 x_14)),(91,.sc (.bool t91_17))],[(1,⟨25,false,[.rd β1 a0.Points.length (a0.Points.flatMap encR45),.rd β2 a0.Before.length (a0.Before.flatMap encR93)]⟩)]⟩) (by subst ht91_17; exact VC.sub (.c rfl<| .c rfl<| .c rfl<| .c rfl<| .n _) (.c rfl<| .n _)) ?_
          refine AWP.cond (.tmp rfl) (fun hc => ?_) (fun hc => ?_)
          · have h := iteT hc h
            refine AWP.seq ?_
            refine AWP.region (.cons (.assign (lt1 rfl) (.const _ _ _))<| ARun.nil _ _ _) ?_
            refine AWP.ret ?_
            obtain rfl := Option.some.inj h
            refine retJ (Res.vc (s' := ⟨[(2,.sc (.bool false))],[]⟩) (VC.sub (.c rfl<| .n _) (.n _)) ?_)
            refine Res.drop (H := []) rfl ?_
            exact Res.of rfl (.cons (.tmp rfl) (.nil)) rfl rfl
          · have h := iteF hc h
            refine AWP.skip ?_
            obtain ⟨t6_18,ht6_18,h⟩ := letS h
            refine AWP.region (.cons (.move (lt1 rfl) (.tmp rfl))<| .cons (.add (lt1 rfl) (.tmp rfl) (.const _ _ _))<| .cons (.assign (lt1 rfl) (.tmp rfl))<| ARun.nil _ _ _) ?_
            exact endJ t6_18 h (by subst ht6_18; exact VC.sub (.c rfl<| .c rfl<| .c rfl<| .n _) (.c rfl<| .n _))
        · have h := iteF hc h
          refine AWP.exit ?_
          exact endJ () h (VC.sub (.c rfl<| .c rfl<| .n _) (.c rfl<| .n _))
    · refine AWP.vc (s' := ⟨[(1,.ptr 1 0),(3,.sc (.int .i64 (a0.Points.length : Int))),(4,.sc (.int .i64 (0 : Int)))],[(1,⟨25,false,[.rd β1 a0.Points.length (a0.Points.flatMap encR45),.rd β2 a0.Before.length (a0.Before.flatMap encR93)]⟩)]⟩) (VC.sub (.c rfl<| .c rfl<| .c rfl<| .n _) (.c rfl<| .n _)) ?_
      refine AWP.loopM (S := fun x_4 : Int => ⟨[(1,.ptr 1 0),(3,.sc (.int .i64 (a0.Points.length : Int))),(4,.sc (.int .i64 x_4))],[(1,⟨25,false,[.rd β1 a0.Points.length (a0.Points.flatMap encR45),.rd β2 a0.Before.length (a0.Before.flatMap encR93)]⟩)]⟩) (x := (0 : Int)) (fun nx_5 x_4 h => ?_) h
      unfold m15_L1 at h
      refine AWP.seq ?_
      refine AWP.seq ?_
      refine AWP.region (.cons (.move (lt1 rfl) (.tmp rfl))<| .cons (.move (lt1 rfl) (.tmp rfl))<| .cons (.lss (lt1 rfl) (.tmp rfl) (.tmp rfl))<| ARun.nil _ _ _) ?_
      refine AWP.vc (s' := ⟨[(1,.ptr 1 0),(3,.sc (.int .i64 (a0.Points.length : Int))),(4,.sc (.int .i64 x_4)),(27,.sc (.bool (decide (x_4 < (a0.Points.length : Int)))))],[(1,⟨25,false,[.rd β1 a0.Points.length (a0.Points.flatMap encR45),.rd β2 a0.Before.length (a0.Before.flatMap encR93)]⟩)]⟩) (VC.sub (.c rfl<| .c rfl<| .c rfl<| .c rfl<| .n _) (.c rfl<| .n _)) ?_
      refine AWP.cond (.tmp rfl) (fun hc => ?_) (fun hc => ?_)
      · have h := iteT hc h
        refine AWP.skip ?_
        refine AWP.seq ?_
        refine AWP.block ?_
        refine AWP.seq ?_
        obtain ⟨y_6,hy_6,h⟩ := bindS h
        refine AWP.region (.cons (.fieldP (lt1 rfl) (.tmp rfl) fld25_0)<| .cons (.loadP (lt1 rfl) (.tmp rfl) one22 rfl rfl rfl)<| .cons (.move (lt1 rfl) (.tmp rfl))<| .cons (.indexRd (enc := encR45) (lt1 rfl) (.tmp rfl) (.tmp rfl) Try.underlying22 sz46 encR45_len rfl hy_6)<| .cons (.loadRA (out := [.sc (.int .i64 y_6.X),.sc (.int .i64 y_6.Y)]) (lt1 rfl) (.tmp rfl) agg46 (Nat.le_of_eq (Eq.symm (encR45_len _))) rfl)<| .cons (.alloc (t := 2) (k := ⟨46,false,[.sc (.int .i64 (0 : Int)),.sc (.int .i64 (0 : Int))]⟩) (lt1 rfl) (nm rfl) zero46 rfl rfl)<| .cons (.storePA (.tmp rfl) (.tmp rfl) sz46 rfl rfl (le1 rfl) (one_lit rfl) (by intro h; cases h) rfl)<| ARun.nil _ _ _) ?_
        refine AWP.vc (s' := ⟨[(1,.ptr 1 0),(3,.sc (.int .i64 (a0.Points.length : Int))),(4,.sc (.int .i64 x_4)),(5,.ptr 2 0)],[(2,⟨46,false,[.sc (.int .i64 y_6.X),.sc (.int .i64 y_6.Y)]⟩),(1,⟨25,false,[.rd β1 a0.Points.length (a0.Points.flatMap encR45),.rd β2 a0.Before.length (a0.Before.flatMap encR93)]⟩)]⟩) (VC.sub (.c rfl<| .c rfl<| .c rfl<| .c rfl<| .n _) (.c rfl<| .c rfl<| .n _)) ?_
        refine AWP.seq ?_
        refine AWP.region (.cons (.fieldP (lt1 rfl) (.tmp rfl) fld46_0)<| .cons (.loadP (lt1 rfl) (.tmp rfl) one3 rfl rfl rfl)<| .cons (.lss (lt1 rfl) (.tmp rfl) (.const _ _ _))<| .cons (.move (lt1 rfl) (.tmp rfl))<| .guard (j := 3) (dj := 38) rfl (lt1 rfl) rfl (lt1 rfl) (fun hg => .fieldP (lt1 rfl) (.tmp rfl) fld46_0)<| .guard (j := 3) (dj := 38) rfl (lt1 rfl) rfl (lt1 rfl) (fun hg => .loadP (lt1 rfl) (.gd hg (.tmp rfl)) one3 rfl rfl rfl)<| .guard (j := 3) (dj := 38) rfl (lt1 rfl) rfl (lt1 rfl) (fun hg => .gtr (lt1 rfl) (.gd hg (.tmp rfl)) (.const _ _ _))<| .cons (.pickOr (lt1 rfl) (.tmp rfl) (.const _ _ _) (.tmp rfl))<| .cons (.move (lt1 rfl) (.tmp rfl))<| .guard (j := 8) (dj := 43) rfl (lt1 rfl) rfl (lt1 rfl) (fun hg => .fieldP (lt1 rfl) (.tmp rfl) fld46_1)<| .guard (j := 8) (dj := 43) rfl (lt1 rfl) rfl (lt1 rfl) (fun hg => .loadP (lt1 rfl) (.gd hg (.tmp rfl)) one3 rfl rfl rfl)<| .guard (j := 8) (dj := 43) rfl (lt1 rfl) rfl (lt1 rfl) (fun hg => .lss (lt1 rfl) (.gd hg (.tmp rfl)) (.const _ _ _))<| .cons (.pickOr (lt1 rfl) (.tmp rfl) (.const _ _ _) (.tmp rfl))<| .cons (.move (lt1 rfl) (.tmp rfl))<| .guard (j := 13) (dj := 48) rfl (lt1 rfl) rfl (lt1 rfl) (fun hg => .fieldP (lt1 rfl) (.tmp rfl) fld46_1)<| .guard (j := 13) (dj := 48) rfl (lt1 rfl) rfl (lt1 rfl) (fun hg => .loadP (lt1 rfl) (.gd hg (.tmp rfl)) one3 rfl rfl rfl)<| .guard (j := 13) (dj := 48) rfl (lt1 rfl) rfl (lt1 rfl) (fun hg => .gtr (lt1 rfl) (.gd hg (.tmp rfl)) (.const _ _ _))<| .cons (.pickOr (lt1 rfl) (.tmp rfl) (.const _ _ _) (.tmp rfl))<| ARun.nil _ _ _) ?_
        refine AWP.vc (s' := ⟨[(1,.ptr 1 0),(3,.sc (.int .i64 (a0.Points.length : Int))),(4,.sc (.int .i64 x_4)),(52,.sc (.bool ((((decide (y_6.X < (-8000 : Int))) || (decide ((8000 : Int) < y_6.X))) || (decide (y_6.Y < (-8000 : Int)))) || (decide ((8000 : Int) < y_6.Y)))))],[(1,⟨25,false,[.rd β1 a0.Points.length (a0.Points.flatMap encR45),.rd β2 a0.Before.length (a0.Before.flatMap encR93)]⟩)]⟩) (VC.sub (.c rfl<| .c rfl<| .c rfl<| .c rfl<| .n _) (.c rfl<| .n _)) ?_
        refine AWP.cond (.tmp rfl) (fun hc => ?_) (fun hc => ?_)
        · have h := iteT hc h
          refine AWP.seq ?_
          refine AWP.region (.cons (.assign (lt1 rfl) (.const _ _ _))<| ARun.nil _ _ _) ?_
          refine AWP.ret ?_
          obtain rfl := Option.some.inj h
          refine retJ (Res.vc (s' := ⟨[(2,.sc (.bool false))],[]⟩) (VC.sub (.c rfl<| .n _) (.n _)) ?_)
          refine Res.drop (H := []) rfl ?_
          exact Res.of rfl (.cons (.tmp rfl) (.nil)) rfl rfl
        · have h := iteF hc h
          refine AWP.skip ?_
          obtain ⟨t4_7,ht4_7,h⟩ := letS h
          refine AWP.region (.cons (.move (lt1 rfl) (.tmp rfl))<| .cons (.add (lt1 rfl) (.tmp rfl) (.const _ _ _))<| .cons (.assign (lt1 rfl) (.tmp rfl))<| ARun.nil _ _ _) ?_
          exact endJ t4_7 h (by subst ht4_7; exact VC.sub (.c rfl<| .c rfl<| .c rfl<| .n _) (.c rfl<| .n _))
      · have h := iteF hc h
        refine AWP.exit ?_
        exact endJ () h (VC.sub (.c rfl<| .c rfl<| .n _) (.c rfl<| .n _))
theorem c50 {β1 : Bool} {β2 : Bool} {β3 : Bool} (n : Nat) (a0 : R24) (a1 : (List Int)) {r : Bool} (h : m50 n a0 a1 = some r) : Spec Try.prog 50 [] [.agg [.rd β1 a0.Points.length (a0.Points.flatMap encR45),.rd β2 a0.Before.length (a0.Before.flatMap encR93)],.rd β3 a1.length (a1.flatMap (encI .i64))] [] (.sc (.bool r)) [] := by
  refine Spec.of (fn := Try.f50) Try.func50 Try.ntmps50 rfl rfl (le1 rfl) (fun w0 Zs Zb T0 ι0 => ?_)
  unfold m50 at h
  refine AWP.seq ?_
  refine AWP.region (.cons (.box (t := 1) (n := 2) (lt1 rfl) (nm rfl) (.tmp rfl) (by first | exact ⟨rfl,rfl⟩ | rfl) rfl)<| .cons (.assign (lt1 rfl) (.const _ _ _))<| ARun.nil _ _ _) ?_
  refine AWP.vc (s' := ⟨[(1,.rd β3 a1.length (a1.flatMap (encI .i64))),(2,.ptr 1 0)],[(1,⟨25,false,[.rd β1 a0.Points.length (a0.Points.flatMap encR45),.rd β2 a0.Before.length (a0.Before.flatMap encR93)]⟩)]⟩) (VC.sub (.c rfl<| .c rfl<| .n _) (.c rfl<| .n _)) ?_
  refine AWP.seq ?_
  refine AWP.seq ?_
  refine AWP.region (.cons (.assign (lt1 rfl) (.const _ _ _))<| ARun.nil _ _ _) ?_
  refine AWP.vc (s' := ⟨[(1,.rd β3 a1.length (a1.flatMap (encI .i64))),(2,.ptr 1 0),(5,.sc (.int .i64 (0 : Int)))],[(1,⟨25,false,[.rd β1 a0.Points.length (a0.Points.flatMap encR45),.rd β2 a0.Before.length (a0.Before.flatMap encR93)]⟩)]⟩) (VC.sub (.c rfl<| .c rfl<| .c rfl<| .n _) (.c rfl<| .n _)) ?_
  refine AWP.joinB' (S := fun p_10 : Unit => ⟨[(1,.rd β3 a1.length (a1.flatMap (encI .i64))),(2,.ptr 1 0)],[(1,⟨25,false,[.rd β1 a0.Points.length (a0.Points.flatMap encR45),.rd β2 a0.Before.length (a0.Before.flatMap encR93)]⟩)]⟩) h (fun p_10 h => ?_) (fun k_11 h => ?_)
  · refine AWP.seq ?_
    refine AWP.region (.cons (.move (lt1 rfl) (.tmp rfl))<| .cons (.lenRd (lt1 rfl) (.tmp rfl) Try.underlying28)<| .cons (.fieldP (lt1 rfl) (.tmp rfl) fld25_0)<| .cons (.loadP (lt1 rfl) (.tmp rfl) one22 rfl rfl rfl)<| .cons (.lenRd (lt1 rfl) (.tmp rfl) Try.underlying22)<| .cons (.eql (lt1 rfl) (.tmp rfl) (.tmp rfl))<| .cons (.assign (lt1 rfl) (.tmp rfl))<| ARun.nil _ _ _) ?_
    refine AWP.ret ?_
    obtain rfl := Option.some.inj h
    refine retJ (Res.vc (s' := ⟨[(4,.sc (.bool (decide ((a1.length : Int) = (a0.Points.length : Int)))))],[]⟩) (VC.sub (.c rfl<| .n _) (.n _)) ?_)
    refine Res.drop (H := []) rfl ?_
    exact Res.of rfl (.cons (.tmp rfl) (.nil)) rfl rfl
  · refine AWP.vc (s' := ⟨[(1,.rd β3 a1.length (a1.flatMap (encI .i64))),(2,.ptr 1 0),(5,.sc (.int .i64 (0 : Int)))],[(1,⟨25,false,[.rd β1 a0.Points.length (a0.Points.flatMap encR45),.rd β2 a0.Before.length (a0.Before.flatMap encR93)]⟩)]⟩) (VC.sub (.c rfl<| .c rfl<| .c rfl<| .n _) (.c rfl<| .n _)) ?_
    refine AWP.loopM (S := fun x_5 : Int => ⟨[(1,.rd β3 a1.length (a1.flatMap (encI .i64))),(2,.ptr 1 0),(5,.sc (.int .i64 x_5))],[(1,⟨25,false,[.rd β1 a0.Points.length (a0.Points.flatMap encR45),.rd β2 a0.Before.length (a0.Before.flatMap encR93)]⟩)]⟩) (x := (0 : Int)) (fun nx_6 x_5 h => ?_) h
    unfold m50_L1 at h
    refine AWP.seq ?_
    refine AWP.seq ?_
    refine AWP.region (.cons (.move (lt1 rfl) (.tmp rfl))<| .cons (.move (lt1 rfl) (.tmp rfl))<| .cons (.lenRd (lt1 rfl) (.tmp rfl) Try.underlying28)<| .cons (.lss (lt1 rfl) (.tmp rfl) (.tmp rfl))<| ARun.nil _ _ _) ?_
    refine AWP.vc (s' := ⟨[(1,.rd β3 a1.length (a1.flatMap (encI .i64))),(2,.ptr 1 0),(5,.sc (.int .i64 x_5)),(9,.sc (.bool (decide (x_5 < (a1.length : Int)))))],[(1,⟨25,false,[.rd β1 a0.Points.length (a0.Points.flatMap encR45),.rd β2 a0.Before.length (a0.Before.flatMap encR93)]⟩)]⟩) (VC.sub (.c rfl<| .c rfl<| .c rfl<| .c rfl<| .n _) (.c rfl<| .n _)) ?_
    refine AWP.cond (.tmp rfl) (fun hc => ?_) (fun hc => ?_)
    · have h := iteT hc h
      refine AWP.skip ?_
      refine AWP.seq ?_
      refine AWP.block ?_
      refine AWP.seq ?_
      obtain ⟨y_7,hy_7,h⟩ := bindS h
      obtain ⟨y_8,hy_8,h⟩ := bindS h
      refine AWP.region (.cons (.move (lt1 rfl) (.tmp rfl))<| .cons (.move (lt1 rfl) (.tmp rfl))<| .cons (.indexRd (enc := (encI .i64)) (lt1 rfl) (.tmp rfl) (.tmp rfl) Try.underlying28 sz3 (encI_len .i64) rfl hy_7)<| .cons (.loadR (v := .sc (.int .i64 y_7)) (lt1 rfl) (.tmp rfl) one3 rfl)<| .cons (.lss (lt1 rfl) (.tmp rfl) (.const _ _ _))<| .cons (.move (lt1 rfl) (.tmp rfl))<| .guard (j := 5) (dj := 17) rfl (lt1 rfl) rfl (lt1 rfl) (fun hg => .move (lt1 rfl) (.tmp rfl))<| .guard (j := 5) (dj := 17) rfl (lt1 rfl) rfl (lt1 rfl) (fun hg => .move (lt1 rfl) (.tmp rfl))<| .guard (j := 5) (dj := 17) rfl (lt1 rfl) rfl (lt1 rfl) (fun hg => .indexRd (enc := (encI .i64)) (lt1 rfl) (.gd hg (.tmp rfl)) (.gd hg (.tmp rfl)) Try.underlying28 sz3 (encI_len .i64) rfl (gdB hy_8 hg))<| .guard (j := 5) (dj := 17) rfl (lt1 rfl) rfl (lt1 rfl) (fun hg => .loadR (v := .sc (.int .i64 y_8)) (lt1 rfl) (.gd hg (.tmp rfl)) one3 rfl)<| .guard (j := 5) (dj := 17) rfl (lt1 rfl) rfl (lt1 rfl) (fun hg => .gtr (lt1 rfl) (.gd hg (.tmp rfl)) (.const _ _ _))<| .cons (.pickOr (lt1 rfl) (.tmp rfl) (.const _ _ _) (.tmp rfl))<| ARun.nil _ _ _) ?_
      refine AWP.vc (s' := ⟨[(1,.rd β3 a1.length (a1.flatMap (encI .i64))),(2,.ptr 1 0),(5,.sc (.int .i64 x_5)),(23,.sc (.bool ((decide (y_7 < (-20000 : Int))) || (decide ((20000 : Int) < y_8)))))],[(1,⟨25,false,[.rd β1 a0.Points.length (a0.Points.flatMap encR45),.rd β2 a0.Before.length (a0.Before.flatMap encR93)]⟩)]⟩) (VC.sub (.c rfl<| .c rfl<| .c rfl<| .c rfl<| .n _) (.c rfl<| .n _)) ?_
      refine AWP.cond (.tmp rfl) (fun hc => ?_) (fun hc => ?_)
      · have h := iteT hc h
        refine AWP.seq ?_
        refine AWP.region (.cons (.assign (lt1 rfl) (.const _ _ _))<| ARun.nil _ _ _) ?_
        refine AWP.ret ?_
        obtain rfl := Option.some.inj h
        refine retJ (Res.vc (s' := ⟨[(4,.sc (.bool false))],[]⟩) (VC.sub (.c rfl<| .n _) (.n _)) ?_)
        refine Res.drop (H := []) rfl ?_
        exact Res.of rfl (.cons (.tmp rfl) (.nil)) rfl rfl
      · have h := iteF hc h
        refine AWP.skip ?_
        obtain ⟨t5_9,ht5_9,h⟩ := letS h
        refine AWP.region (.cons (.move (lt1 rfl) (.tmp rfl))<| .cons (.add (lt1 rfl) (.tmp rfl) (.const _ _ _))<| .cons (.assign (lt1 rfl) (.tmp rfl))<| ARun.nil _ _ _) ?_
        exact endJ t5_9 h (by subst ht5_9; exact VC.sub (.c rfl<| .c rfl<| .c rfl<| .n _) (.c rfl<| .n _))
    · have h := iteF hc h
      refine AWP.exit ?_
      exact endJ () h (VC.sub (.c rfl<| .c rfl<| .n _) (.c rfl<| .n _))
theorem c36 (n : Nat) (a0 : R45) (a1 : R45) {r : Int} (h : m36 n a0 a1 = some r) : Spec Try.prog 36 [] [.agg [.sc (.int .i64 a0.X),.sc (.int .i64 a0.Y)],.agg [.sc (.int .i64 a1.X),.sc (.int .i64 a1.Y)]] [] (.sc (.int .i64 r)) [] := by
  refine Spec.of (fn := Try.f36) Try.func36 Try.ntmps36 rfl rfl (le1 rfl) (fun w0 Zs Zb T0 ι0 => ?_)
  unfold m36 at h
  refine AWP.seq ?_
  refine AWP.region (.cons (.box (t := 1) (n := 2) (lt1 rfl) (nm rfl) (.tmp rfl) (by first | exact ⟨rfl,rfl⟩ | rfl) rfl)<| .cons (.box (t := 2) (n := 2) (lt1 rfl) (nm rfl) (.tmp rfl) (by first | exact ⟨rfl,rfl⟩ | rfl) rfl)<| .cons (.assign (lt1 rfl) (.const _ _ _))<| ARun.nil _ _ _) ?_
  refine AWP.vc (s' := ⟨[(2,.ptr 1 0),(3,.ptr 2 0)],[(2,⟨46,false,[.sc (.int .i64 a1.X),.sc (.int .i64 a1.Y)]⟩),(1,⟨46,false,[.sc (.int .i64 a0.X),.sc (.int .i64 a0.Y)]⟩)]⟩) (VC.sub (.c rfl<| .c rfl<| .n _) (.c rfl<| .c rfl<| .n _)) ?_
  refine AWP.seq ?_
  obtain ⟨t4_1,ht4_1,h⟩ := letS h
  refine AWP.region (.cons (.fieldP (lt1 rfl) (.tmp rfl) fld46_0)<| .cons (.loadP (lt1 rfl) (.tmp rfl) one3 rfl rfl rfl)<| .cons (.fieldP (lt1 rfl) (.tmp rfl) fld46_0)<| .cons (.loadP (lt1 rfl) (.tmp rfl) one3 rfl rfl rfl)<| .cons (.sub (lt1 rfl) (.tmp rfl) (.tmp rfl))<| .cons (.fieldP (lt1 rfl) (.tmp rfl) fld46_0)<| .cons (.loadP (lt1 rfl) (.tmp rfl) one3 rfl rfl rfl)<| .cons (.fieldP (lt1 rfl) (.tmp rfl) fld46_0)<| .cons (.loadP (lt1 rfl) (.tmp rfl) one3 rfl rfl rfl)<| .cons (.sub (lt1 rfl) (.tmp rfl) (.tmp rfl))<| .cons (.fieldP (lt1 rfl) (.tmp rfl) fld46_1)<| .cons (.loadP (lt1 rfl) (.tmp rfl) one3 rfl rfl rfl)<| .cons (.fieldP (lt1 rfl) (.tmp rfl) fld46_1)<| .cons (.loadP (lt1 rfl) (.tmp rfl) one3 rfl rfl rfl)<| .cons (.sub (lt1 rfl) (.tmp rfl) (.tmp rfl))<| .cons (.fieldP (lt1 rfl) (.tmp rfl) fld46_1)<| .cons (.loadP (lt1 rfl) (.tmp rfl) one3 rfl rfl rfl)<| .cons (.fieldP (lt1 rfl) (.tmp rfl) fld46_1)<| .cons (.loadP (lt1 rfl) (.tmp rfl) one3 rfl rfl rfl)<| .cons (.sub (lt1 rfl) (.tmp rfl) (.tmp rfl))<| .cons (.max4 (lt1 rfl) (.tmp rfl) (.tmp rfl) (.tmp rfl) (.tmp rfl))<| .cons (.assign (lt1 rfl) (.tmp rfl))<| ARun.nil _ _ _) ?_
  refine AWP.ret ?_
  obtain rfl := Option.some.inj h
  refine retJ (Res.vc (s' := ⟨[(4,.sc (.int .i64 t4_1))],[]⟩) (by subst ht4_1; exact VC.sub (.c rfl<| .n _) (.n _)) ?_)
  refine Res.drop (H := []) rfl ?_
  exact Res.of rfl (.cons (.tmp rfl) (.nil)) rfl rfl
theorem c53 {β1 : Bool} {β2 : Bool} {β3 : Bool} (n : Nat) (a0 : R24) (a1 : (List Int)) {r : Int} (h : m53 n a0 a1 = some r) : Spec Try.prog 53 [] [.agg [.rd β1 a0.Points.length (a0.Points.flatMap encR45),.rd β2 a0.Before.length (a0.Before.flatMap encR93)],.rd β3 a1.length (a1.flatMap (encI .i64))] [] (.sc (.int .i64 r)) [] := by
  refine Spec.of (fn := Try.f53) Try.func53 Try.ntmps53 rfl rfl (le1 rfl) (fun w0 Zs Zb T0 ι0 => ?_)
  unfold m53 at h
  refine AWP.seq ?_
  refine AWP.region (.cons (.box (t := 1) (n := 2) (lt1 rfl) (nm rfl) (.tmp rfl) (by first | exact ⟨rfl,rfl⟩ | rfl) rfl)<| .cons (.assign (lt1 rfl) (.const _ _ _))<| ARun.nil _ _ _) ?_
  refine AWP.vc (s' := ⟨[(1,.rd β3 a1.length (a1.flatMap (encI .i64))),(2,.ptr 1 0)],[(1,⟨25,false,[.rd β1 a0.Points.length (a0.Points.flatMap encR45),.rd β2 a0.Before.length (a0.Before.flatMap encR93)]⟩)]⟩) (VC.sub (.c rfl<| .c rfl<| .n _) (.c rfl<| .n _)) ?_
  refine AWP.seq ?_
  refine AWP.region (.cons (.assign (lt1 rfl) (.const _ _ _))<| ARun.nil _ _ _) ?_
  refine AWP.vc (s' := ⟨[(1,.rd β3 a1.length (a1.flatMap (encI .i64))),(2,.ptr 1 0),(5,.sc (.int .i64 (0 : Int)))],[(1,⟨25,false,[.rd β1 a0.Points.length (a0.Points.flatMap encR45),.rd β2 a0.Before.length (a0.Before.flatMap encR93)]⟩)]⟩) (VC.sub (.c rfl<| .c rfl<| .c rfl<| .n _) (.c rfl<| .n _)) ?_
  refine AWP.seq ?_
  refine AWP.seq ?_
  refine AWP.region (.cons (.assign (lt1 rfl) (.const _ _ _))<| ARun.nil _ _ _) ?_
  refine AWP.vc (s' := ⟨[(1,.rd β3 a1.length (a1.flatMap (encI .i64))),(2,.ptr 1 0),(5,.sc (.int .i64 (0 : Int))),(6,.sc (.int .i64 (1 : Int)))],[(1,⟨25,false,[.rd β1 a0.Points.length (a0.Points.flatMap encR45),.rd β2 a0.Before.length (a0.Before.flatMap encR93)]⟩)]⟩) (VC.sub (.c rfl<| .c rfl<| .c rfl<| .c rfl<| .n _) (.c rfl<| .n _)) ?_
  refine AWP.joinB' (S := fun p_18 : Int => ⟨[(5,.sc (.int .i64 p_18))],[]⟩) h (fun p_18 h => ?_) (fun k_19 h => ?_)
  · refine AWP.seq ?_
    refine AWP.region (.cons (.move (lt1 rfl) (.tmp rfl))<| .cons (.assign (lt1 rfl) (.tmp rfl))<| ARun.nil _ _ _) ?_
    refine AWP.ret ?_
    obtain rfl := Option.some.inj h
    refine retJ (Res.vc (s' := ⟨[(4,.sc (.int .i64 p_18))],[]⟩) (VC.sub (.c rfl<| .n _) (.n _)) ?_)
    refine Res.drop (H := []) rfl ?_
    exact Res.of rfl (.cons (.tmp rfl) (.nil)) rfl rfl
  · refine AWP.vc (s' := ⟨[(1,.rd β3 a1.length (a1.flatMap (encI .i64))),(2,.ptr 1 0),(5,.sc (.int .i64 (0 : Int))),(6,.sc (.int .i64 (1 : Int)))],[(1,⟨25,false,[.rd β1 a0.Points.length (a0.Points.flatMap encR45),.rd β2 a0.Before.length (a0.Before.flatMap encR93)]⟩)]⟩) (VC.sub (.c rfl<| .c rfl<| .c rfl<| .c rfl<| .n _) (.c rfl<| .n _)) ?_
    refine AWP.loopM (S := fun x_9 : Int × Int => ⟨[(1,.rd β3 a1.length (a1.flatMap (encI .i64))),(2,.ptr 1 0),(5,.sc (.int .i64 x_9.1)),(6,.sc (.int .i64 x_9.2))],[(1,⟨25,false,[.rd β1 a0.Points.length (a0.Points.flatMap encR45),.rd β2 a0.Before.length (a0.Before.flatMap encR93)]⟩)]⟩) (x := ((0 : Int),(1 : Int))) (fun nx_10 x_9 h => ?_) h
    unfold m53_L1 at h
    refine AWP.seq ?_
    refine AWP.seq ?_
    refine AWP.region (.cons (.move (lt1 rfl) (.tmp rfl))<| .cons (.move (lt1 rfl) (.tmp rfl))<| .cons (.lenRd (lt1 rfl) (.tmp rfl) Try.underlying28)<| .cons (.lss (lt1 rfl) (.tmp rfl) (.tmp rfl))<| ARun.nil _ _ _) ?_
    refine AWP.vc (s' := ⟨[(1,.rd β3 a1.length (a1.flatMap (encI .i64))),(2,.ptr 1 0),(5,.sc (.int .i64 x_9.1)),(6,.sc (.int .i64 x_9.2)),(10,.sc (.bool (decide (x_9.2 < (a1.length : Int)))))],[(1,⟨25,false,[.rd β1 a0.Points.length (a0.Points.flatMap encR45),.rd β2 a0.Before.length (a0.Before.flatMap encR93)]⟩)]⟩) (VC.sub (.c rfl<| .c rfl<| .c rfl<| .c rfl<| .c rfl<| .n _) (.c rfl<| .n _)) ?_
    refine AWP.cond (.tmp rfl) (fun hc => ?_) (fun hc => ?_)
    · have h := iteT hc h
      refine AWP.skip ?_
      refine AWP.seq ?_
      refine AWP.block ?_
      obtain ⟨y_11,hy_11,h⟩ := bindS h
      obtain ⟨y_12,hy_12,h⟩ := bindS h
      obtain ⟨y_13,hy_13,h⟩ := bindS h
      obtain ⟨y_14,hy_14,h⟩ := bindS h
      obtain ⟨y_15,hy_15,h⟩ := bindS h
      obtain ⟨t5_16,ht5_16,h⟩ := letS h
      refine AWP.draw (s' := ⟨[(1,.rd β3 a1.length (a1.flatMap (encI .i64))),(2,.ptr 1 0),(5,.sc (.int .i64 (IntKind.wrap .i64 (x_9.1 + y_15)))),(6,.sc (.int .i64 x_9.2))],[(1,⟨25,false,[.rd β1 a0.Points.length (a0.Points.flatMap encR45),.rd β2 a0.Before.length (a0.Before.flatMap encR93)]⟩)]⟩) mixed [⟨1,.rd β3 a1.length (a1.flatMap (encI .i64)),none,[]⟩,⟨2,.ptr 1 0,none,[]⟩,⟨5,.sc (.int .i64 x_9.1),none,[20]⟩,⟨6,.sc (.int .i64 x_9.2),none,[]⟩,⟨10,.sc (.bool (decide (x_9.2 < (a1.length : Int)))),none,[]⟩,⟨13,.sc (.int .i64 x_9.1),some 0,[]⟩,⟨14,.ptr 1 (0 + 0),some 1,[]⟩,⟨15,.rd β1 a0.Points.length (a0.Points.flatMap encR45),some 2,[]⟩,⟨16,.rd β3 a1.length (a1.flatMap (encI .i64)),some 3,[]⟩,⟨17,.sc (.int .i64 x_9.2),some 4,[]⟩,⟨18,.sc (.int .i64 (IntKind.wrap .i64 (x_9.2 - (1 : Int)))),some 5,[]⟩,⟨19,.rptr β3 [.sc (.int .i64 y_11)],some 6,[]⟩,⟨20,.sc (.int .i64 y_11),some 7,[]⟩,⟨21,.rptr β1 [.sc (.int .i64 y_12.X),.sc (.int .i64 y_12.Y)],some 8,[]⟩,⟨22,.agg [.sc (.int .i64 y_12.X),.sc (.int .i64 y_12.Y)],some 9,[]⟩,⟨23,.ptr 1 (0 + 0),some 10,[]⟩,⟨24,.rd β1 a0.Points.length (a0.Points.flatMap encR45),some 11,[]⟩,⟨25,.rd β3 a1.length (a1.flatMap (encI .i64)),some 12,[]⟩,⟨26,.sc (.int .i64 x_9.2),some 13,[]⟩,⟨27,.rptr β3 [.sc (.int .i64 y_13)],some 14,[]⟩,⟨28,.sc (.int .i64 y_13),some 15,[]⟩,⟨29,.rptr β1 [.sc (.int .i64 y_14.X),.sc (.int .i64 y_14.Y)],some 16,[]⟩,⟨30,.agg [.sc (.int .i64 y_14.X),.sc (.int .i64 y_14.Y)],some 17,[]⟩,⟨31,.sc (.int .i64 y_15),some 18,[]⟩,⟨32,.sc (.int .i64 (IntKind.wrap .i64 (x_9.1 + y_15))),some 19,[]⟩,⟨5,.sc (.int .i64 (IntKind.wrap .i64 (x_9.1 + y_15))),some 20,[]⟩] [⟨[2],0,0,some (13,.sc (.int .i64 x_9.1)),[]⟩,⟨[1],0,0,some (14,.ptr 1 (0 + 0)),[]⟩,⟨[6],0,0,some (15,.rd β1 a0.Points.length (a0.Points.flatMap encR45)),[]⟩,⟨[0],0,0,some (16,.rd β3 a1.length (a1.flatMap (encI .i64))),[]⟩,⟨[3],0,0,some (17,.sc (.int .i64 x_9.2)),[]⟩,⟨[9],0,0,some (18,.sc (.int .i64 (IntKind.wrap .i64 (x_9.2 - (1 : Int))))),[]⟩,⟨[8,10],0,0,some (19,.rptr β3 [.sc (.int .i64 y_11)]),[]⟩,⟨[11],0,0,some (20,.sc (.int .i64 y_11)),[]⟩,⟨[7,12],0,0,some (21,.rptr β1 [.sc (.int .i64 y_12.X),.sc (.int .i64 y_12.Y)]),[]⟩,⟨[13],0,0,some (22,.agg [.sc (.int .i64 y_12.X),.sc (.int .i64 y_12.Y)]),[]⟩,⟨[1],0,0,some (23,.ptr 1 (0 + 0)),[]⟩,⟨[15],0,0,some (24,.rd β1 a0.Points.length (a0.Points.flatMap encR45)),[]⟩,⟨[0],0,0,some (25,.rd β3 a1.length (a1.flatMap (encI .i64))),[]⟩,⟨[3],0,0,some (26,.sc (.int .i64 x_9.2)),[]⟩,⟨[17,18],0,0,some (27,.rptr β3 [.sc (.int .i64 y_13)]),[]⟩,⟨[19],0,0,some (28,.sc (.int .i64 y_13)),[]⟩,⟨[16,20],0,0,some (29,.rptr β1 [.sc (.int .i64 y_14.X),.sc (.int .i64 y_14.Y)]),[]⟩,⟨[21],0,0,some (30,.agg [.sc (.int .i64 y_14.X),.sc (.int .i64 y_14.Y)]),[]⟩,⟨[14,22],0,0,some (31,.sc (.int .i64 y_15)),[]⟩,⟨[5,23],0,0,some (32,.sc (.int .i64 (IntKind.wrap .i64 (x_9.1 + y_15)))),[]⟩,⟨[24],0,0,some (5,.sc (.int .i64 (IntKind.wrap .i64 (x_9.1 + y_15)))),[]⟩] [] [[(1,⟨25,false,[.rd β1 a0.Points.length (a0.Points.flatMap encR45),.rd β2 a0.Before.length (a0.Before.flatMap encR93)]⟩)]] [[],[],[1],[],[],[4],[3,4,5],[3,4,5,6],[1,2,3,4,5,6,7],[1,2,3,4,5,6,7,8],[],[10],[],[],[12,13],[12,13,14],[10,11,12,13,14,15],[10,11,12,13,14,15,16],[1,2,3,4,5,6,7,8,9,10,11,12,13,14,15,16,17],[0,1,2,3,4,5,6,7,8,9,10,11,12,13,14,15,16,17,18],[0,1,2,3,4,5,6,7,8,9,10,11,12,13,14,15,16,17,18,19]] (by kernel_rfl) (by kernel_rfl) (BornL.ok (.o<| .o<| .o<| .o<| .o<| .b rfl rfl<| .b rfl rfl<| .b rfl rfl<| .b rfl rfl<| .b rfl rfl<| .b rfl rfl<| .b rfl rfl<| .b rfl rfl<| .b rfl rfl<| .b rfl rfl<| .b rfl rfl<| .b rfl rfl<| .b rfl rfl<| .b rfl rfl<| .b rfl rfl<| .b rfl rfl<| .b rfl rfl<| .b rfl rfl<| .b rfl rfl<| .b rfl rfl<| .b rfl rfl<| .n)) (BaseL.ok (.o rfl<| .o rfl<| .o rfl<| .o rfl<| .o rfl<| .b<| .b<| .b<| .b<| .b<| .b<| .b<| .b<| .b<| .b<| .b<| .b<| .b<| .b<| .b<| .b<| .b<| .b<| .b<| .b<| .b<| .n)) rfl (by decide) (allLt rfl) (.pure rfl (fun H => .put (fun E hE => .move (lt1 rfl) (.tmp (hE.at (k := 0) rfl))))<| .read rfl (.c (.put (fun E hE => .fieldP (lt1 rfl) (.tmp (hE.at (k := 0) rfl)) fld25_0)) .n)<| .read rfl (.c (.put (fun E hE => .loadP (lt1 rfl) (.tmp (hE.at (k := 0) rfl)) one22 rfl rfl rfl)) .n)<| .pure rfl (fun H => .put (fun E hE => .move (lt1 rfl) (.tmp (hE.at (k := 0) rfl))))<| .pure rfl (fun H => .put (fun E hE => .move (lt1 rfl) (.tmp (hE.at (k := 0) rfl))))<| .pure rfl (fun H => .put (fun E hE => .sub (lt1 rfl) (.tmp (hE.at (k := 0) rfl)) (.const _ _ _)))<| .pure rfl (fun H => .put (fun E hE => .indexRd (enc := (encI .i64)) (lt1 rfl) (.tmp (hE.at (k := 0) rfl)) (.tmp (hE.at (k := 1) rfl)) Try.underlying28 sz3 (encI_len .i64) rfl hy_11))<| .pure rfl (fun H => .put (fun E hE => .loadR (v := .sc (.int .i64 y_11)) (lt1 rfl) (.tmp (hE.at (k := 0) rfl)) one3 rfl))<| .pure rfl (fun H => .put (fun E hE => .indexRd (enc := encR45) (lt1 rfl) (.tmp (hE.at (k := 0) rfl)) (.tmp (hE.at (k := 1) rfl)) Try.underlying22 sz46 encR45_len rfl hy_12))<| .pure rfl (fun H => .put (fun E hE => .loadRA (out := [.sc (.int .i64 y_12.X),.sc (.int .i64 y_12.Y)]) (lt1 rfl) (.tmp (hE.at (k := 0) rfl)) agg46 (Nat.le_of_eq (Eq.symm (encR45_len _))) rfl))<| .read rfl (.c (.put (fun E hE => .fieldP (lt1 rfl) (.tmp (hE.at (k := 0) rfl)) fld25_0)) .n)<| .read rfl (.c (.put (fun E hE => .loadP (lt1 rfl) (.tmp (hE.at (k := 0) rfl)) one22 rfl rfl rfl)) .n)<| .pure rfl (fun H => .put (fun E hE => .move (lt1 rfl) (.tmp (hE.at (k := 0) rfl))))<| .pure rfl (fun H => .put (fun E hE => .move (lt1 rfl) (.tmp (hE.at (k := 0) rfl))))<| .pure rfl (fun H => .put (fun E hE => .indexRd (enc := (encI .i64)) (lt1 rfl) (.tmp (hE.at (k := 0) rfl)) (.tmp (hE.at (k := 1) rfl)) Try.underlying28 sz3 (encI_len .i64) rfl hy_13))<| .pure rfl (fun H => .put (fun E hE => .loadR (v := .sc (.int .i64 y_13)) (lt1 rfl) (.tmp (hE.at (k := 0) rfl)) one3 rfl))<| .pure rfl (fun H => .put (fun E hE => .indexRd (enc := encR45) (lt1 rfl) (.tmp (hE.at (k := 0) rfl)) (.tmp (hE.at (k := 1) rfl)) Try.underlying22 sz46 encR45_len rfl hy_14))<| .pure rfl (fun H => .put (fun E hE => .loadRA (out := [.sc (.int .i64 y_14.X),.sc (.int .i64 y_14.Y)]) (lt1 rfl) (.tmp (hE.at (k := 0) rfl)) agg46 (Nat.le_of_eq (Eq.symm (encR45_len _))) rfl))<| .pure rfl (fun H => .put (fun E hE => .call0 (bw := false) (lt1 rfl) (c36 n (R45.mk y_12.X y_12.Y) (R45.mk y_14.X y_14.Y) hy_15) (.cons (.tmp (hE.at (k := 0) rfl)) (.ren rfl) (.cons (.tmp (hE.at (k := 1) rfl)) (.ren rfl) (.nil))) rfl))<| .pure rfl (fun H => .put (fun E hE => .add (lt1 rfl) (.tmp (hE.at (k := 0) rfl)) (.tmp (hE.at (k := 1) rfl))))<| .pure rfl (fun H => .put (fun E hE => .assign (lt1 rfl) (.tmp (hE.at (k := 0) rfl))))<| .nil _) (fun E hE => .c (DInv.at hE (k := 0) rfl rfl rfl)<| .c (DInv.at hE (k := 1) rfl rfl rfl)<| .c (DInv.at hE (k := 25) rfl rfl rfl)<| .c (DInv.at hE (k := 3) rfl rfl rfl)<| .n _) rfl ?_
      refine AWP.vc (s' := ⟨[(1,.rd β3 a1.length (a1.flatMap (encI .i64))),(2,.ptr 1 0),(5,.sc (.int .i64 t5_16)),(6,.sc (.int .i64 x_9.2))],[(1,⟨25,false,[.rd β1 a0.Points.length (a0.Points.flatMap encR45),.rd β2 a0.Before.length (a0.Before.flatMap encR93)]⟩)]⟩) (by subst ht5_16; exact VC.sub (.c rfl<| .c rfl<| .c rfl<| .c rfl<| .n _) (.c rfl<| .n _)) ?_
      obtain ⟨t6_17,ht6_17,h⟩ := letS h
      refine AWP.region (.cons (.move (lt1 rfl) (.tmp rfl))<| .cons (.add (lt1 rfl) (.tmp rfl) (.const _ _ _))<| .cons (.assign (lt1 rfl) (.tmp rfl))<| ARun.nil _ _ _) ?_
      exact endJ (t5_16,t6_17) h (by subst ht6_17; exact VC.sub (.c rfl<| .c rfl<| .c rfl<| .c rfl<| .n _) (.c rfl<| .n _))
    · have h := iteF hc h
      refine AWP.exit ?_
      exact endJ x_9.1 h (VC.sub (.c rfl<| .n _) (.n _))
theorem c20 {β1 : Bool} {β2 : Bool} {β3 : Bool} (n : Nat) (a0 : R24) (a1 : (List Int)) {r : Int} (h : m20 n a0 a1 = some r) : Spec Try.prog 20 [] [.agg [.rd β1 a0.Points.length (a0.Points.flatMap encR45),.rd β2 a0.Before.length (a0.Before.flatMap encR93)],.rd β3 a1.length (a1.flatMap (encI .i64))] [] (.sc (.int .i64 r)) [] := by
  refine Spec.of (fn := Try.f20) Try.func20 Try.ntmps20 rfl rfl (le1 rfl) (fun w0 Zs Zb T0 ι0 => ?_)
  unfold m20 at h
  refine AWP.seq ?_
  refine AWP.region (.cons (.box (t := 1) (n := 2) (lt1 rfl) (nm rfl) (.tmp rfl) (by first | exact ⟨rfl,rfl⟩ | rfl) rfl)<| .cons (.assign (lt1 rfl) (.const _ _ _))<| ARun.nil _ _ _) ?_
  refine AWP.vc (s' := ⟨[(1,.rd β3 a1.length (a1.flatMap (encI .i64))),(2,.ptr 1 0)],[(1,⟨25,false,[.rd β1 a0.Points.length (a0.Points.flatMap encR45),.rd β2 a0.Before.length (a0.Before.flatMap encR93)]⟩)]⟩) (VC.sub (.c rfl<| .c rfl<| .n _) (.c rfl<| .n _)) ?_
  refine AWP.seq ?_
  obtain ⟨y_1,hy_1,h⟩ := bindS h
  obtain ⟨y_2,hy_2,h⟩ := bindS h
  obtain ⟨y_3,hy_3,h⟩ := bindS h
  obtain ⟨y_4,hy_4,h⟩ := bindS h
  obtain ⟨y_5,hy_5,h⟩ := bindS h
  obtain ⟨t4_6,ht4_6,h⟩ := letS h
  refine AWP.draw (s' := ⟨[(4,.sc (.int .i64 (IntKind.wrap .i64 (y_1 + y_5))))],[(1,⟨25,false,[.rd β1 a0.Points.length (a0.Points.flatMap encR45),.rd β2 a0.Before.length (a0.Before.flatMap encR93)]⟩)]⟩) mixed [⟨1,.rd β3 a1.length (a1.flatMap (encI .i64)),none,[]⟩,⟨2,.ptr 1 0,none,[]⟩,⟨5,.agg [.rd β1 a0.Points.length (a0.Points.flatMap encR45),.rd β2 a0.Before.length (a0.Before.flatMap encR93)],some 0,[]⟩,⟨6,.rd β3 a1.length (a1.flatMap (encI .i64)),some 1,[]⟩,⟨7,.sc (.int .i64 y_1),some 2,[]⟩,⟨8,.ptr 1 (0 + 0),some 3,[]⟩,⟨9,.rd β1 a0.Points.length (a0.Points.flatMap encR45),some 4,[]⟩,⟨10,.rd β3 a1.length (a1.flatMap (encI .i64)),some 5,[]⟩,⟨11,.rd β3 a1.length (a1.flatMap (encI .i64)),some 6,[]⟩,⟨12,.sc (.int .i64 (a1.length : Int)),some 7,[]⟩,⟨13,.sc (.int .i64 (IntKind.wrap .i64 ((a1.length : Int) - (1 : Int)))),some 8,[]⟩,⟨14,.rptr β3 [.sc (.int .i64 y_2)],some 9,[]⟩,⟨15,.sc (.int .i64 y_2),some 10,[]⟩,⟨16,.rptr β1 [.sc (.int .i64 y_3.X),.sc (.int .i64 y_3.Y)],some 11,[]⟩,⟨17,.agg [.sc (.int .i64 y_3.X),.sc (.int .i64 y_3.Y)],some 12,[]⟩,⟨18,.ptr 1 (0 + 0),some 13,[]⟩,⟨19,.rd β1 a0.Points.length (a0.Points.flatMap encR45),some 14,[]⟩,⟨20,.rptr β1 [.sc (.int .i64 y_4.X),.sc (.int .i64 y_4.Y)],some 15,[]⟩,⟨21,.agg [.sc (.int .i64 y_4.X),.sc (.int .i64 y_4.Y)],some 16,[]⟩,⟨22,.sc (.int .i64 y_5),some 17,[]⟩,⟨23,.sc (.int .i64 (IntKind.wrap .i64 (y_1 + y_5))),some 18,[]⟩,⟨4,.sc (.int .i64 (IntKind.wrap .i64 (y_1 + y_5))),some 19,[]⟩] [⟨[1],0,0,some (5,.agg [.rd β1 a0.Points.length (a0.Points.flatMap encR45),.rd β2 a0.Before.length (a0.Before.flatMap encR93)]),[]⟩,⟨[0],0,0,some (6,.rd β3 a1.length (a1.flatMap (encI .i64))),[]⟩,⟨[2,3],0,0,some (7,.sc (.int .i64 y_1)),[]⟩,⟨[1],0,0,some (8,.ptr 1 (0 + 0)),[]⟩,⟨[5],0,0,some (9,.rd β1 a0.Points.length (a0.Points.flatMap encR45)),[]⟩,⟨[0],0,0,some (10,.rd β3 a1.length (a1.flatMap (encI .i64))),[]⟩,⟨[0],0,0,some (11,.rd β3 a1.length (a1.flatMap (encI .i64))),[]⟩,⟨[8],0,0,some (12,.sc (.int .i64 (a1.length : Int))),[]⟩,⟨[9],0,0,some (13,.sc (.int .i64 (IntKind.wrap .i64 ((a1.length : Int) - (1 : Int))))),[]⟩,⟨[7,10],0,0,some (14,.rptr β3 [.sc (.int .i64 y_2)]),[]⟩,⟨[11],0,0,some (15,.sc (.int .i64 y_2)),[]⟩,⟨[6,12],0,0,some (16,.rptr β1 [.sc (.int .i64 y_3.X),.sc (.int .i64 y_3.Y)]),[]⟩,⟨[13],0,0,some (17,.agg [.sc (.int .i64 y_3.X),.sc (.int .i64 y_3.Y)]),[]⟩,⟨[1],0,0,some (18,.ptr 1 (0 + 0)),[]⟩,⟨[15],0,0,some (19,.rd β1 a0.Points.length (a0.Points.flatMap encR45)),[]⟩,⟨[16],0,0,some (20,.rptr β1 [.sc (.int .i64 y_4.X),.sc (.int .i64 y_4.Y)]),[]⟩,⟨[17],0,0,some (21,.agg [.sc (.int .i64 y_4.X),.sc (.int .i64 y_4.Y)]),[]⟩,⟨[14,18],0,0,some (22,.sc (.int .i64 y_5)),[]⟩,⟨[4,19],0,0,some (23,.sc (.int .i64 (IntKind.wrap .i64 (y_1 + y_5)))),[]⟩,⟨[20],0,0,some (4,.sc (.int .i64 (IntKind.wrap .i64 (y_1 + y_5)))),[]⟩] [] [[(1,⟨25,false,[.rd β1 a0.Points.length (a0.Points.flatMap encR45),.rd β2 a0.Before.length (a0.Before.flatMap encR93)]⟩)]] [[],[],[0,1],[],[3],[],[],[6],[6,7],[5,6,7,8],[5,6,7,8,9],[3,4,5,6,7,8,9,10],[3,4,5,6,7,8,9,10,11],[],[13],[13,14],[13,14,15],[0,1,2,3,4,5,6,7,8,9,10,11,12,13,14,15,16],[0,1,2,3,4,5,6,7,8,9,10,11,12,13,14,15,16,17],[0,1,2,3,4,5,6,7,8,9,10,11,12,13,14,15,16,17,18]] (by kernel_rfl) (by kernel_rfl) (BornL.ok (.o<| .o<| .b rfl rfl<| .b rfl rfl<| .b rfl rfl<| .b rfl rfl<| .b rfl rfl<| .b rfl rfl<| .b rfl rfl<| .b rfl rfl<| .b rfl rfl<| .b rfl rfl<| .b rfl rfl<| .b rfl rfl<| .b rfl rfl<| .b rfl rfl<| .b rfl rfl<| .b rfl rfl<| .b rfl rfl<| .b rfl rfl<| .b rfl rfl<| .b rfl rfl<| .n)) (BaseL.ok (.o rfl<| .o rfl<| .b<| .b<| .b<| .b<| .b<| .b<| .b<| .b<| .b<| .b<| .b<| .b<| .b<| .b<| .b<| .b<| .b<| .b<| .b<| .b<| .n)) rfl (by decide) (allLt rfl) (.read rfl (.c (.put (fun E hE => .loadPA (lt1 rfl) (.tmp (hE.at (k := 0) rfl)) agg25 rfl rfl rfl rfl)) .n)<| .pure rfl (fun H => .put (fun E hE => .move (lt1 rfl) (.tmp (hE.at (k := 0) rfl))))<| .pure rfl (fun H => .put (fun E hE => .call0 (bw := false) (lt1 rfl) (c53 (β1 := β1) (β2 := β2) (β3 := β3) n (R24.mk a0.Points a0.Before) a1 hy_1) (.cons (.tmp (hE.at (k := 0) rfl)) (.ren rfl) (.cons (.tmp (hE.at (k := 1) rfl)) (.ren rfl) (.nil))) rfl))<| .read rfl (.c (.put (fun E hE => .fieldP (lt1 rfl) (.tmp (hE.at (k := 0) rfl)) fld25_0)) .n)<| .read rfl (.c (.put (fun E hE => .loadP (lt1 rfl) (.tmp (hE.at (k := 0) rfl)) one22 rfl rfl rfl)) .n)<| .pure rfl (fun H => .put (fun E hE => .move (lt1 rfl) (.tmp (hE.at (k := 0) rfl))))<| .pure rfl (fun H => .put (fun E hE => .move (lt1 rfl) (.tmp (hE.at (k := 0) rfl))))<| .pure rfl (fun H => .put (fun E hE => .lenRd (lt1 rfl) (.tmp (hE.at (k := 0) rfl)) Try.underlying28))<| .pure rfl (fun H => .put (fun E hE => .sub (lt1 rfl) (.tmp (hE.at (k := 0) rfl)) (.const _ _ _)))<| .pure rfl (fun H => .put (fun E hE => .indexRd (enc := (encI .i64)) (lt1 rfl) (.tmp (hE.at (k := 0) rfl)) (.tmp (hE.at (k := 1) rfl)) Try.underlying28 sz3 (encI_len .i64) rfl hy_2))<| .pure rfl (fun H => .put (fun E hE => .loadR (v := .sc (.int .i64 y_2)) (lt1 rfl) (.tmp (hE.at (k := 0) rfl)) one3 rfl))<| .pure rfl (fun H => .put (fun E hE => .indexRd (enc := encR45) (lt1 rfl) (.tmp (hE.at (k := 0) rfl)) (.tmp (hE.at (k := 1) rfl)) Try.underlying22 sz46 encR45_len rfl hy_3))<| .pure rfl (fun H => .put (fun E hE => .loadRA (out := [.sc (.int .i64 y_3.X),.sc (.int .i64 y_3.Y)]) (lt1 rfl) (.tmp (hE.at (k := 0) rfl)) agg46 (Nat.le_of_eq (Eq.symm (encR45_len _))) rfl))<| .read rfl (.c (.put (fun E hE => .fieldP (lt1 rfl) (.tmp (hE.at (k := 0) rfl)) fld25_0)) .n)<| .read rfl (.c (.put (fun E hE => .loadP (lt1 rfl) (.tmp (hE.at (k := 0) rfl)) one22 rfl rfl rfl)) .n)<| .pure rfl (fun H => .put (fun E hE => .indexRd (enc := encR45) (lt1 rfl) (.tmp (hE.at (k := 0) rfl)) (.const _ _ _) Try.underlying22 sz46 encR45_len rfl hy_4))<| .pure rfl (fun H => .put (fun E hE => .loadRA (out := [.sc (.int .i64 y_4.X),.sc (.int .i64 y_4.Y)]) (lt1 rfl) (.tmp (hE.at (k := 0) rfl)) agg46 (Nat.le_of_eq (Eq.symm (encR45_len _))) rfl))<| .pure rfl (fun H => .put (fun E hE => .call0 (bw := false) (lt1 rfl) (c36 n (R45.mk y_3.X y_3.Y) (R45.mk y_4.X y_4.Y) hy_5) (.cons (.tmp (hE.at (k := 0) rfl)) (.ren rfl) (.cons (.tmp (hE.at (k := 1) rfl)) (.ren rfl) (.nil))) rfl))<| .pure rfl (fun H => .put (fun E hE => .add (lt1 rfl) (.tmp (hE.at (k := 0) rfl)) (.tmp (hE.at (k := 1) rfl))))<| .pure rfl (fun H => .put (fun E hE => .assign (lt1 rfl) (.tmp (hE.at (k := 0) rfl))))<| .nil _) (fun E hE => .c (DInv.at hE (k := 21) rfl rfl rfl)<| .n _) rfl ?_
  refine AWP.ret ?_
  obtain rfl := Option.some.inj h
  refine retJ (Res.vc (s' := ⟨[(4,.sc (.int .i64 t4_6))],[]⟩) (by subst ht4_6; exact VC.sub (.c rfl<| .n _) (.n _)) ?_)
  refine Res.drop (H := []) rfl ?_
  exact Res.of rfl (.cons (.tmp rfl) (.nil)) rfl rfl
end Go.AB
