import Derived.Test.YtnmglighdhaccaaProg
import Derived.Test.YtnmglighdhaccaaF4a
import Derived.KernelRfl
set_option linter.unusedVariables false
set_option maxRecDepth 20000
namespace Go.AB
open Go Go.Proofs
theorem c29 {β1 : Bool} (n : Nat) (a0 : (List R56)) {r : Bool} (h : m29 n a0 = some r) : Spec Try.prog 29 [] [.rd β1 a0.length (a0.flatMap encR56)] [] (.sc (.bool r)) [] := by
  refine Spec.of (fn := Try.f29) Try.func29 Try.ntmps29 rfl rfl (le1 rfl) (fun w0 Zs Zb T0 ι0 => ?_)
  unfold m29 at h
  refine AWP.seq ?_
  refine AWP.region (.cons (.assign (lt1 rfl) (.const _ _ _))<| ARun.nil _ _ _) ?_
  refine AWP.vc (s' := ⟨[(0,.rd β1 a0.length (a0.flatMap encR56))],[]⟩) (VC.sub (.c rfl<| .n _) (.n _)) ?_
  refine AWP.seq ?_
  refine AWP.seq ?_
  refine AWP.region (.cons (.assign (lt1 rfl) (.const _ _ _))<| ARun.nil _ _ _) ?_
  refine AWP.vc (s' := ⟨[(0,.rd β1 a0.length (a0.flatMap encR56)),(3,.sc (.int .i64 (0 : Int)))],[]⟩) (VC.sub (.c rfl<| .c rfl<| .n _) (.n _)) ?_
  refine AWP.joinB' (S := fun p_10 : Unit => ⟨[(0,.rd β1 a0.length (a0.flatMap encR56))],[]⟩) h (fun p_10 h => ?_) (fun k_11 h => ?_)
  · refine AWP.seq ?_
    refine AWP.region (.cons (.move (lt1 rfl) (.tmp rfl))<| .cons (.lenRd (lt1 rfl) (.tmp rfl) Try.underlying49)<| .cons (.leq (lt1 rfl) (.tmp rfl) (.const _ _ _))<| .cons (.assign (lt1 rfl) (.tmp rfl))<| ARun.nil _ _ _) ?_
    refine AWP.ret ?_
    obtain rfl := Option.some.inj h
    refine retJ (Res.vc (s' := ⟨[(2,.sc (.bool (decide ((a0.length : Int) ≤ (12 : Int)))))],[]⟩) (VC.sub (.c rfl<| .n _) (.n _)) ?_)
    refine Res.drop (H := []) rfl ?_
    exact Res.of rfl (.cons (.tmp rfl) (.nil)) rfl rfl
  · refine AWP.vc (s' := ⟨[(0,.rd β1 a0.length (a0.flatMap encR56)),(3,.sc (.int .i64 (0 : Int)))],[]⟩) (VC.sub (.c rfl<| .c rfl<| .n _) (.n _)) ?_
    refine AWP.loopM (S := fun x_5 : Int => ⟨[(0,.rd β1 a0.length (a0.flatMap encR56)),(3,.sc (.int .i64 x_5))],[]⟩) (x := (0 : Int)) (fun nx_6 x_5 h => ?_) h
    unfold m29_L1 at h
    refine AWP.seq ?_
    refine AWP.seq ?_
    refine AWP.region (.cons (.move (lt1 rfl) (.tmp rfl))<| .cons (.move (lt1 rfl) (.tmp rfl))<| .cons (.lenRd (lt1 rfl) (.tmp rfl) Try.underlying49)<| .cons (.lss (lt1 rfl) (.tmp rfl) (.tmp rfl))<| ARun.nil _ _ _) ?_
    refine AWP.vc (s' := ⟨[(0,.rd β1 a0.length (a0.flatMap encR56)),(3,.sc (.int .i64 x_5)),(7,.sc (.bool (decide (x_5 < (a0.length : Int)))))],[]⟩) (VC.sub (.c rfl<| .c rfl<| .c rfl<| .n _) (.n _)) ?_
    refine AWP.cond (.tmp rfl) (fun hc => ?_) (fun hc => ?_)
    · have h := iteT hc h
      refine AWP.skip ?_
      refine AWP.seq ?_
      refine AWP.block ?_
      refine AWP.seq ?_
      obtain ⟨y_7,hy_7,h⟩ := bindS h
      obtain ⟨y_8,hy_8,h⟩ := bindS h
      refine AWP.region (.cons (.move (lt1 rfl) (.tmp rfl))<| .cons (.move (lt1 rfl) (.tmp rfl))<| .cons (.indexRd (enc := encR56) (lt1 rfl) (.tmp rfl) (.tmp rfl) Try.underlying49 sz78 encR56_len rfl hy_7)<| .cons (.fieldR (lt1 rfl) (.tmp rfl) fld78_0 rfl)<| .cons (.loadR (v := .rd β1 y_7.Pattern.length (y_7.Pattern.flatMap (encI .i64))) (lt1 rfl) (.tmp rfl) one22 rfl)<| .cons (.lenRd (lt1 rfl) (.tmp rfl) Try.underlying22)<| .cons (.gtr (lt1 rfl) (.tmp rfl) (.const _ _ _))<| .cons (.move (lt1 rfl) (.tmp rfl))<| .guard (j := 7) (dj := 17) rfl (lt1 rfl) rfl (lt1 rfl) (fun hg => .move (lt1 rfl) (.tmp rfl))<| .guard (j := 7) (dj := 17) rfl (lt1 rfl) rfl (lt1 rfl) (fun hg => .move (lt1 rfl) (.tmp rfl))<| .guard (j := 7) (dj := 17) rfl (lt1 rfl) rfl (lt1 rfl) (fun hg => .indexRd (enc := encR56) (lt1 rfl) (.gd hg (.tmp rfl)) (.gd hg (.tmp rfl)) Try.underlying49 sz78 encR56_len rfl (gdB hy_8 hg))<| .guard (j := 7) (dj := 17) rfl (lt1 rfl) rfl (lt1 rfl) (fun hg => .fieldR (lt1 rfl) (.gd hg (.tmp rfl)) fld78_1 rfl)<| .guard (j := 7) (dj := 17) rfl (lt1 rfl) rfl (lt1 rfl) (fun hg => .loadR (v := .sc (.int .i64 y_8.Count)) (lt1 rfl) (.gd hg (.tmp rfl)) one3 rfl)<| .guard (j := 7) (dj := 17) rfl (lt1 rfl) rfl (lt1 rfl) (fun hg => .gtr (lt1 rfl) (.gd hg (.tmp rfl)) (.const _ _ _))<| .cons (.pickOr (lt1 rfl) (.tmp rfl) (.const _ _ _) (.tmp rfl))<| ARun.nil _ _ _) ?_
      refine AWP.vc (s' := ⟨[(0,.rd β1 a0.length (a0.flatMap encR56)),(3,.sc (.int .i64 x_5)),(24,.sc (.bool ((decide ((25 : Int) < (y_7.Pattern.length : Int))) || (decide ((40 : Int) < y_8.Count)))))],[]⟩) (VC.sub (.c rfl<| .c rfl<| .c rfl<| .n _) (.n _)) ?_
      refine AWP.cond (.tmp rfl) (fun hc => ?_) (fun hc => ?_)
      · have h := iteT hc h
        refine AWP.seq ?_
        refine AWP.region (.cons (.assign (lt1 rfl) (.const _ _ _))<| ARun.nil _ _ _) ?_
        refine AWP.ret ?_
        obtain rfl := Option.some.inj h
        refine retJ (Res.vc (s' := ⟨[(2,.sc (.bool false))],[]⟩) (VC.sub (.c rfl<| .n _) (.n _)) ?_)
        refine Res.drop (H := []) rfl ?_
        exact Res.of rfl (.cons (.tmp rfl) (.nil)) rfl rfl
      · have h := iteF hc h
        refine AWP.skip ?_
        obtain ⟨t3_9,ht3_9,h⟩ := letS h
        refine AWP.region (.cons (.move (lt1 rfl) (.tmp rfl))<| .cons (.add (lt1 rfl) (.tmp rfl) (.const _ _ _))<| .cons (.assign (lt1 rfl) (.tmp rfl))<| ARun.nil _ _ _) ?_
        exact endJ t3_9 h (by subst ht3_9; exact VC.sub (.c rfl<| .c rfl<| .n _) (.n _))
    · have h := iteF hc h
      refine AWP.exit ?_
      exact endJ () h (VC.sub (.c rfl<| .n _) (.n _))
theorem c30 {β1 : Bool} {β2 : Bool} {β3 : Bool} (n : Nat) (a0 : R23) (a1 : (List R56)) {r : Bool} (h : m30 n a0 a1 = some r) : Spec Try.prog 30 [] [.agg [.rd β1 a0.Lengths.length (a0.Lengths.flatMap (encI .i64)),.rd β2 a0.Demand.length (a0.Demand.flatMap (encI .i64)),.sc (.int .i64 a0.Stock),.sc (.int .i64 a0.Kerf)],.rd β3 a1.length (a1.flatMap encR56)] [] (.sc (.bool r)) [] := by
  refine Spec.of (fn := Try.f30) Try.func30 Try.ntmps30 rfl rfl (le1 rfl) (fun w0 Zs Zb T0 ι0 => ?_)
  unfold m30 at h
  refine AWP.seq ?_
  refine AWP.region (.cons (.box (t := 1) (n := 4) (lt1 rfl) (nm rfl) (.tmp rfl) (by first | exact ⟨rfl,rfl⟩ | rfl) rfl)<| .cons (.assign (lt1 rfl) (.const _ _ _))<| ARun.nil _ _ _) ?_
  refine AWP.vc (s' := ⟨[(1,.rd β3 a1.length (a1.flatMap encR56)),(2,.ptr 1 0)],[(1,⟨24,false,[.rd β1 a0.Lengths.length (a0.Lengths.flatMap (encI .i64)),.rd β2 a0.Demand.length (a0.Demand.flatMap (encI .i64)),.sc (.int .i64 a0.Stock),.sc (.int .i64 a0.Kerf)]⟩)]⟩) (VC.sub (.c rfl<| .c rfl<| .n _) (.c rfl<| .n _)) ?_
  refine AWP.seq ?_
  refine AWP.seq ?_
  obtain ⟨y_1,hy_1,h⟩ := bindS h
  refine AWP.region (.cons (.loadPA (lt1 rfl) (.tmp rfl) agg24 rfl rfl rfl rfl)<| .cons (.call0 (bw := false) (lt1 rfl) (c12 (β1 := β1) (β2 := β2) n (R23.mk a0.Lengths a0.Demand a0.Stock a0.Kerf) hy_1) (.cons (.tmp rfl) (.ren rfl) (.nil)) rfl)<| .cons (.not (lt1 rfl) (.tmp rfl))<| .cons (.move (lt1 rfl) (.tmp rfl))<| .guard (j := 3) (dj := 9) rfl (lt1 rfl) rfl (lt1 rfl) (fun hg => .move (lt1 rfl) (.tmp rfl))<| .guard (j := 3) (dj := 9) rfl (lt1 rfl) rfl (lt1 rfl) (fun hg => .lenRd (lt1 rfl) (.gd hg (.tmp rfl)) Try.underlying49)<| .guard (j := 3) (dj := 9) rfl (lt1 rfl) rfl (lt1 rfl) (fun hg => .gtr (lt1 rfl) (.gd hg (.tmp rfl)) (.const _ _ _))<| .cons (.pickOr (lt1 rfl) (.tmp rfl) (.const _ _ _) (.tmp rfl))<| ARun.nil _ _ _) ?_
  refine AWP.vc (s' := ⟨[(1,.rd β3 a1.length (a1.flatMap encR56)),(2,.ptr 1 0),(13,.sc (.bool ((!y_1) || (decide ((1000 : Int) < (a1.length : Int))))))],[(1,⟨24,false,[.rd β1 a0.Lengths.length (a0.Lengths.flatMap (encI .i64)),.rd β2 a0.Demand.length (a0.Demand.flatMap (encI .i64)),.sc (.int .i64 a0.Stock),.sc (.int .i64 a0.Kerf)]⟩)]⟩) (VC.sub (.c rfl<| .c rfl<| .c rfl<| .n _) (.c rfl<| .n _)) ?_
  refine AWP.cond (.tmp rfl) (fun hc => ?_) (fun hc => ?_)
  · have h := iteT hc h
    refine AWP.seq ?_
    refine AWP.region (.cons (.assign (lt1 rfl) (.const _ _ _))<| ARun.nil _ _ _) ?_
    refine AWP.ret ?_
    obtain rfl := Option.some.inj h
    refine retJ (Res.vc (s' := ⟨[(4,.sc (.bool false))],[]⟩) (VC.sub (.c rfl<| .n _) (.n _)) ?_)
    refine Res.drop (H := []) rfl ?_
    exact Res.of rfl (.cons (.tmp rfl) (.nil)) rfl rfl
  · have h := iteF hc h
    refine AWP.skip ?_
    refine AWP.seq ?_
    refine AWP.seq ?_
    refine AWP.region (.cons (.assign (lt1 rfl) (.const _ _ _))<| ARun.nil _ _ _) ?_
    refine AWP.vc (s' := ⟨[(1,.rd β3 a1.length (a1.flatMap encR56)),(2,.ptr 1 0),(5,.sc (.int .i64 (0 : Int)))],[(1,⟨24,false,[.rd β1 a0.Lengths.length (a0.Lengths.flatMap (encI .i64)),.rd β2 a0.Demand.length (a0.Demand.flatMap (encI .i64)),.sc (.int .i64 a0.Stock),.sc (.int .i64 a0.Kerf)]⟩)]⟩) (VC.sub (.c rfl<| .c rfl<| .c rfl<| .n _) (.c rfl<| .n _)) ?_
    refine AWP.joinB' (S := fun p_15 : Unit => ⟨[],[]⟩) h (fun p_15 h => ?_) (fun k_16 h => ?_)
    · refine AWP.seq ?_
      refine AWP.region (.cons (.assign (lt1 rfl) (.const _ _ _))<| ARun.nil _ _ _) ?_
      refine AWP.ret ?_
      obtain rfl := Option.some.inj h
      refine retJ (Res.vc (s' := ⟨[(4,.sc (.bool true))],[]⟩) (VC.sub (.c rfl<| .n _) (.n _)) ?_)
      refine Res.drop (H := []) rfl ?_
      exact Res.of rfl (.cons (.tmp rfl) (.nil)) rfl rfl
    · refine AWP.vc (s' := ⟨[(1,.rd β3 a1.length (a1.flatMap encR56)),(2,.ptr 1 0),(5,.sc (.int .i64 (0 : Int)))],[(1,⟨24,false,[.rd β1 a0.Lengths.length (a0.Lengths.flatMap (encI .i64)),.rd β2 a0.Demand.length (a0.Demand.flatMap (encI .i64)),.sc (.int .i64 a0.Stock),.sc (.int .i64 a0.Kerf)]⟩)]⟩) (VC.sub (.c rfl<| .c rfl<| .c rfl<| .n _) (.c rfl<| .n _)) ?_
      refine AWP.loopM (S := fun x_8 : Int => ⟨[(1,.rd β3 a1.length (a1.flatMap encR56)),(2,.ptr 1 0),(5,.sc (.int .i64 x_8))],[(1,⟨24,false,[.rd β1 a0.Lengths.length (a0.Lengths.flatMap (encI .i64)),.rd β2 a0.Demand.length (a0.Demand.flatMap (encI .i64)),.sc (.int .i64 a0.Stock),.sc (.int .i64 a0.Kerf)]⟩)]⟩) (x := (0 : Int)) (fun nx_9 x_8 h => ?_) h
      unfold m30_L1 at h
      refine AWP.seq ?_
      refine AWP.seq ?_
      refine AWP.region (.cons (.move (lt1 rfl) (.tmp rfl))<| .cons (.move (lt1 rfl) (.tmp rfl))<| .cons (.lenRd (lt1 rfl) (.tmp rfl) Try.underlying49)<| .cons (.lss (lt1 rfl) (.tmp rfl) (.tmp rfl))<| ARun.nil _ _ _) ?_
      refine AWP.vc (s' := ⟨[(1,.rd β3 a1.length (a1.flatMap encR56)),(2,.ptr 1 0),(5,.sc (.int .i64 x_8)),(17,.sc (.bool (decide (x_8 < (a1.length : Int)))))],[(1,⟨24,false,[.rd β1 a0.Lengths.length (a0.Lengths.flatMap (encI .i64)),.rd β2 a0.Demand.length (a0.Demand.flatMap (encI .i64)),.sc (.int .i64 a0.Stock),.sc (.int .i64 a0.Kerf)]⟩)]⟩) (VC.sub (.c rfl<| .c rfl<| .c rfl<| .c rfl<| .n _) (.c rfl<| .n _)) ?_
      refine AWP.cond (.tmp rfl) (fun hc => ?_) (fun hc => ?_)
      · have h := iteT hc h
        refine AWP.skip ?_
        refine AWP.seq ?_
        refine AWP.block ?_
        refine AWP.seq ?_
        obtain ⟨y_10,hy_10,h⟩ := bindS h
        obtain ⟨y_11,hy_11,h⟩ := bindS h
        obtain ⟨y_12,hy_12,h⟩ := bindS h
        obtain ⟨y_13,hy_13,h⟩ := bindS h
        refine AWP.draw (s' := ⟨[(1,.rd β3 a1.length (a1.flatMap encR56)),(2,.ptr 1 0),(5,.sc (.int .i64 x_8)),(43,.sc (.bool (((!y_11) || (decide (y_12.Count < (1 : Int)))) || (decide ((1000 : Int) < y_13.Count)))))],[(1,⟨24,false,[.rd β1 a0.Lengths.length (a0.Lengths.flatMap (encI .i64)),.rd β2 a0.Demand.length (a0.Demand.flatMap (encI .i64)),.sc (.int .i64 a0.Stock),.sc (.int .i64 a0.Kerf)]⟩)]⟩) mixed [⟨1,.rd β3 a1.length (a1.flatMap encR56),none,[]⟩,⟨2,.ptr 1 0,none,[]⟩,⟨5,.sc (.int .i64 x_8),none,[]⟩,⟨17,.sc (.bool (decide (x_8 < (a1.length : Int)))),none,[]⟩,⟨20,.agg [.rd β1 a0.Lengths.length (a0.Lengths.flatMap (encI .i64)),.rd β2 a0.Demand.length (a0.Demand.flatMap (encI .i64)),.sc (.int .i64 a0.Stock),.sc (.int .i64 a0.Kerf)],some 0,[]⟩,⟨21,.rd β3 a1.length (a1.flatMap encR56),some 1,[]⟩,⟨22,.sc (.int .i64 x_8),some 2,[]⟩,⟨23,.rptr β3 [.rd false y_10.Pattern.length (y_10.Pattern.flatMap (encI .i64)),.sc (.int .i64 y_10.Count)],some 3,[]⟩,⟨24,.rptr β3 [.rd false y_10.Pattern.length (y_10.Pattern.flatMap (encI .i64)),.sc (.int .i64 y_10.Count)],some 4,[]⟩,⟨25,.rd β3 y_10.Pattern.length (y_10.Pattern.flatMap (encI .i64)),some 5,[]⟩,⟨26,.sc (.bool y_11),some 6,[]⟩,⟨27,.sc (.bool (!y_11)),some 7,[]⟩,⟨28,.sc (.bool (!y_11)),some 8,[]⟩,⟨29,.gd (!(!y_11)) (.rd β3 a1.length (a1.flatMap encR56)),some 9,[]⟩,⟨30,.gd (!(!y_11)) (.sc (.int .i64 x_8)),some 10,[]⟩,⟨31,.gd (!(!y_11)) (.rptr β3 [.rd false y_12.Pattern.length (y_12.Pattern.flatMap (encI .i64)),.sc (.int .i64 y_12.Count)]),some 11,[]⟩,⟨32,.gd (!(!y_11)) (.rptr β3 [.sc (.int .i64 y_12.Count)]),some 12,[]⟩,⟨33,.gd (!(!y_11)) (.sc (.int .i64 y_12.Count)),some 13,[]⟩,⟨34,.gd (!(!y_11)) (.sc (.bool (decide (y_12.Count < (1 : Int))))),some 14,[]⟩,⟨35,.sc (.bool ((!y_11) || (decide (y_12.Count < (1 : Int))))),some 15,[]⟩,⟨36,.sc (.bool ((!y_11) || (decide (y_12.Count < (1 : Int))))),some 16,[]⟩,⟨37,.gd (!((!y_11) || (decide (y_12.Count < (1 : Int))))) (.rd β3 a1.length (a1.flatMap encR56)),some 17,[]⟩,⟨38,.gd (!((!y_11) || (decide (y_12.Count < (1 : Int))))) (.sc (.int .i64 x_8)),some 18,[]⟩,⟨39,.gd (!((!y_11) || (decide (y_12.Count < (1 : Int))))) (.rptr β3 [.rd false y_13.Pattern.length (y_13.Pattern.flatMap (encI .i64)),.sc (.int .i64 y_13.Count)]),some 19,[]⟩,⟨40,.gd (!((!y_11) || (decide (y_12.Count < (1 : Int))))) (.rptr β3 [.sc (.int .i64 y_13.Count)]),some 20,[]⟩,⟨41,.gd (!((!y_11) || (decide (y_12.Count < (1 : Int))))) (.sc (.int .i64 y_13.Count)),some 21,[]⟩,⟨42,.gd (!((!y_11) || (decide (y_12.Count < (1 : Int))))) (.sc (.bool (decide ((1000 : Int) < y_13.Count)))),some 22,[]⟩,⟨43,.sc (.bool (((!y_11) || (decide (y_12.Count < (1 : Int)))) || (decide ((1000 : Int) < y_13.Count)))),some 23,[]⟩] [⟨[1],0,0,some (20,.agg [.rd β1 a0.Lengths.length (a0.Lengths.flatMap (encI .i64)),.rd β2 a0.Demand.length (a0.Demand.flatMap (encI .i64)),.sc (.int .i64 a0.Stock),.sc (.int .i64 a0.Kerf)]),[]⟩,⟨[0],0,0,some (21,.rd β3 a1.length (a1.flatMap encR56)),[]⟩,⟨[2],0,0,some (22,.sc (.int .i64 x_8)),[]⟩,⟨[5,6],0,0,some (23,.rptr β3 [.rd false y_10.Pattern.length (y_10.Pattern.flatMap (encI .i64)),.sc (.int .i64 y_10.Count)]),[]⟩,⟨[7],0,0,some (24,.rptr β3 [.rd false y_10.Pattern.length (y_10.Pattern.flatMap (encI .i64)),.sc (.int .i64 y_10.Count)]),[]⟩,⟨[8],0,0,some (25,.rd β3 y_10.Pattern.length (y_10.Pattern.flatMap (encI .i64))),[]⟩,⟨[4,9],0,0,some (26,.sc (.bool y_11)),[]⟩,⟨[10],0,0,some (27,.sc (.bool (!y_11))),[]⟩,⟨[11],0,0,some (28,.sc (.bool (!y_11))),[]⟩,⟨[12,0],0,0,some (29,.gd (!(!y_11)) (.rd β3 a1.length (a1.flatMap encR56))),[]⟩,⟨[12,2],0,0,some (30,.gd (!(!y_11)) (.sc (.int .i64 x_8))),[]⟩,⟨[12,13,14],0,0,some (31,.gd (!(!y_11)) (.rptr β3 [.rd false y_12.Pattern.length (y_12.Pattern.flatMap (encI .i64)),.sc (.int .i64 y_12.Count)])),[]⟩,⟨[12,15],0,0,some (32,.gd (!(!y_11)) (.rptr β3 [.sc (.int .i64 y_12.Count)])),[]⟩,⟨[12,16],0,0,some (33,.gd (!(!y_11)) (.sc (.int .i64 y_12.Count))),[]⟩,⟨[12,17],0,0,some (34,.gd (!(!y_11)) (.sc (.bool (decide (y_12.Count < (1 : Int)))))),[]⟩,⟨[12,18],0,0,some (35,.sc (.bool ((!y_11) || (decide (y_12.Count < (1 : Int)))))),[]⟩,⟨[19],0,0,some (36,.sc (.bool ((!y_11) || (decide (y_12.Count < (1 : Int)))))),[]⟩,⟨[20,0],0,0,some (37,.gd (!((!y_11) || (decide (y_12.Count < (1 : Int))))) (.rd β3 a1.length (a1.flatMap encR56))),[]⟩,⟨[20,2],0,0,some (38,.gd (!((!y_11) || (decide (y_12.Count < (1 : Int))))) (.sc (.int .i64 x_8))),[]⟩,⟨[20,21,22],0,0,some (39,.gd (!((!y_11) || (decide (y_12.Count < (1 : Int))))) (.rptr β3 [.rd false y_13.Pattern.length (y_13.Pattern.flatMap (encI .i64)),.sc (.int .i64 y_13.Count)])),[]⟩,⟨[20,23],0,0,some (40,.gd (!((!y_11) || (decide (y_12.Count < (1 : Int))))) (.rptr β3 [.sc (.int .i64 y_13.Count)])),[]⟩,⟨[20,24],0,0,some (41,.gd (!((!y_11) || (decide (y_12.Count < (1 : Int))))) (.sc (.int .i64 y_13.Count))),[]⟩,⟨[20,25],0,0,some (42,.gd (!((!y_11) || (decide (y_12.Count < (1 : Int))))) (.sc (.bool (decide ((1000 : Int) < y_13.Count))))),[]⟩,⟨[20,26],0,0,some (43,.sc (.bool (((!y_11) || (decide (y_12.Count < (1 : Int)))) || (decide ((1000 : Int) < y_13.Count))))),[]⟩] [] [[(1,⟨24,false,[.rd β1 a0.Lengths.length (a0.Lengths.flatMap (encI .i64)),.rd β2 a0.Demand.length (a0.Demand.flatMap (encI .i64)),.sc (.int .i64 a0.Stock),.sc (.int .i64 a0.Kerf)]⟩)]] [[],[],[],[1,2],[1,2,3],[1,2,3,4],[0,1,2,3,4,5],[0,1,2,3,4,5,6],[0,1,2,3,4,5,6,7],[0,1,2,3,4,5,6,7,8],[0,1,2,3,4,5,6,7,8],[0,1,2,3,4,5,6,7,8,9,10],[0,1,2,3,4,5,6,7,8,9,10,11],[0,1,2,3,4,5,6,7,8,9,10,11,12],[0,1,2,3,4,5,6,7,8,9,10,11,12,13],[0,1,2,3,4,5,6,7,8,9,10,11,12,13,14],[0,1,2,3,4,5,6,7,8,9,10,11,12,13,14,15],[0,1,2,3,4,5,6,7,8,9,10,11,12,13,14,15,16],[0,1,2,3,4,5,6,7,8,9,10,11,12,13,14,15,16],[0,1,2,3,4,5,6,7,8,9,10,11,12,13,14,15,16,17,18],[0,1,2,3,4,5,6,7,8,9,10,11,12,13,14,15,16,17,18,19],[0,1,2,3,4,5,6,7,8,9,10,11,12,13,14,15,16,17,18,19,20],[0,1,2,3,4,5,6,7,8,9,10,11,12,13,14,15,16,17,18,19,20,21],[0,1,2,3,4,5,6,7,8,9,10,11,12,13,14,15,16,17,18,19,20,21,22]] (by kernel_rfl) (by kernel_rfl) (BornL.ok (.o<| .o<| .o<| .o<| .b rfl rfl<| .b rfl rfl<| .b rfl rfl<| .b rfl rfl<| .b rfl rfl<| .b rfl rfl<| .b rfl rfl<| .b rfl rfl<| .b rfl rfl<| .b rfl rfl<| .b rfl rfl<| .b rfl rfl<| .b rfl rfl<| .b rfl rfl<| .b rfl rfl<| .b rfl rfl<| .b rfl rfl<| .b rfl rfl<| .b rfl rfl<| .b rfl rfl<| .b rfl rfl<| .b rfl rfl<| .b rfl rfl<| .b rfl rfl<| .n)) (BaseL.ok (.o rfl<| .o rfl<| .o rfl<| .o rfl<| .b<| .b<| .b<| .b<| .b<| .b<| .b<| .b<| .b<| .b<| .b<| .b<| .b<| .b<| .b<| .b<| .b<| .b<| .b<| .b<| .b<| .b<| .b<| .b<| .n)) rfl (by decide) (allLt rfl) (.read rfl (.c (.put (fun E hE => .loadPA (lt1 rfl) (.tmp (hE.at (k := 0) rfl)) agg24 rfl rfl rfl rfl)) .n)<| .pure rfl (fun H => .put (fun E hE => .move (lt1 rfl) (.tmp (hE.at (k := 0) rfl))))<| .pure rfl (fun H => .put (fun E hE => .move (lt1 rfl) (.tmp (hE.at (k := 0) rfl))))<| .pure rfl (fun H => .put (fun E hE => .indexRd (enc := encR56) (lt1 rfl) (.tmp (hE.at (k := 0) rfl)) (.tmp (hE.at (k := 1) rfl)) Try.underlying49 sz78 encR56_len rfl hy_10))<| .pure rfl (fun H => .put (fun E hE => .fieldR (lt1 rfl) (.tmp (hE.at (k := 0) rfl)) fld78_0 rfl))<| .pure rfl (fun H => .put (fun E hE => .loadR (v := .rd β3 y_10.Pattern.length (y_10.Pattern.flatMap (encI .i64))) (lt1 rfl) (.tmp (hE.at (k := 0) rfl)) one22 rfl))<| .pure rfl (fun H => .put (fun E hE => .call0 (bw := false) (lt1 rfl) (c27 (β1 := β1) (β2 := β2) (β3 := β3) n (R23.mk a0.Lengths a0.Demand a0.Stock a0.Kerf) y_10.Pattern hy_11) (.cons (.tmp (hE.at (k := 0) rfl)) (.ren rfl) (.cons (.tmp (hE.at (k := 1) rfl)) (.ren rfl) (.nil))) rfl))<| .pure rfl (fun H => .put (fun E hE => .not (lt1 rfl) (.tmp (hE.at (k := 0) rfl))))<| .pure rfl (fun H => .put (fun E hE => .move (lt1 rfl) (.tmp (hE.at (k := 0) rfl))))<| .pure rfl (fun H => .gput (b := (!y_11)) (want := false) (j := 8) (dj := 28) rfl (lt1 rfl) (lt1 rfl) (fun E hE => hE.at (k := 0) rfl) (fun hg E hE => .move (lt1 rfl) (.tmp (hE.at (k := 1) rfl))))<| .pure rfl (fun H => .gput (b := (!y_11)) (want := false) (j := 8) (dj := 28) rfl (lt1 rfl) (lt1 rfl) (fun E hE => hE.at (k := 0) rfl) (fun hg E hE => .move (lt1 rfl) (.tmp (hE.at (k := 1) rfl))))<| .pure rfl (fun H => .gput (b := (!y_11)) (want := false) (j := 8) (dj := 28) rfl (lt1 rfl) (lt1 rfl) (fun E hE => hE.at (k := 0) rfl) (fun hg E hE => .indexRd (enc := encR56) (lt1 rfl) (.gd hg (.tmp (hE.at (k := 1) rfl))) (.gd hg (.tmp (hE.at (k := 2) rfl))) Try.underlying49 sz78 encR56_len rfl (gdB hy_12 hg)))<| .pure rfl (fun H => .gput (b := (!y_11)) (want := false) (j := 8) (dj := 28) rfl (lt1 rfl) (lt1 rfl) (fun E hE => hE.at (k := 0) rfl) (fun hg E hE => .fieldR (sub := [.sc (.int .i64 y_12.Count)]) (lt1 rfl) (.gd hg (.tmp (hE.at (k := 1) rfl))) fld78_1 rfl))<| .pure rfl (fun H => .gput (b := (!y_11)) (want := false) (j := 8) (dj := 28) rfl (lt1 rfl) (lt1 rfl) (fun E hE => hE.at (k := 0) rfl) (fun hg E hE => .loadR (v := .sc (.int .i64 y_12.Count)) (lt1 rfl) (.gd hg (.tmp (hE.at (k := 1) rfl))) one3 rfl))<| .pure rfl (fun H => .gput (b := (!y_11)) (want := false) (j := 8) (dj := 28) rfl (lt1 rfl) (lt1 rfl) (fun E hE => hE.at (k := 0) rfl) (fun hg E hE => .lss (lt1 rfl) (.gd hg (.tmp (hE.at (k := 1) rfl))) (.const _ _ _)))<| .pure rfl (fun H => .put (fun E hE => .pickOr (lt1 rfl) (.tmp (hE.at (k := 0) rfl)) (.const _ _ _) (.tmp (hE.at (k := 1) rfl))))<| .pure rfl (fun H => .put (fun E hE => .move (lt1 rfl) (.tmp (hE.at (k := 0) rfl))))<| .pure rfl (fun H => .gput (b := ((!y_11) || (decide (y_12.Count < (1 : Int))))) (want := false) (j := 16) (dj := 36) rfl (lt1 rfl) (lt1 rfl) (fun E hE => hE.at (k := 0) rfl) (fun hg E hE => .move (lt1 rfl) (.tmp (hE.at (k := 1) rfl))))<| .pure rfl (fun H => .gput (b := ((!y_11) || (decide (y_12.Count < (1 : Int))))) (want := false) (j := 16) (dj := 36) rfl (lt1 rfl) (lt1 rfl) (fun E hE => hE.at (k := 0) rfl) (fun hg E hE => .move (lt1 rfl) (.tmp (hE.at (k := 1) rfl))))<| .pure rfl (fun H => .gput (b := ((!y_11) || (decide (y_12.Count < (1 : Int))))) (want := false) (j := 16) (dj := 36) rfl (lt1 rfl) (lt1 rfl) (fun E hE => hE.at (k := 0) rfl) (fun hg E hE => .indexRd (enc := encR56) (lt1 rfl) (.gd hg (.tmp (hE.at (k := 1) rfl))) (.gd hg (.tmp (hE.at (k := 2) rfl))) Try.underlying49 sz78 encR56_len rfl (gdB hy_13 hg)))<| .pure rfl (fun H => .gput (b := ((!y_11) || (decide (y_12.Count < (1 : Int))))) (want := false) (j := 16) (dj := 36) rfl (lt1 rfl) (lt1 rfl) (fun E hE => hE.at (k := 0) rfl) (fun hg E hE => .fieldR (sub := [.sc (.int .i64 y_13.Count)]) (lt1 rfl) (.gd hg (.tmp (hE.at (k := 1) rfl))) fld78_1 rfl))<| .pure rfl (fun H => .gput (b := ((!y_11) || (decide (y_12.Count < (1 : Int))))) (want := false) (j := 16) (dj := 36) rfl (lt1 rfl) (lt1 rfl) (fun E hE => hE.at (k := 0) rfl) (fun hg E hE => .loadR (v := .sc (.int .i64 y_13.Count)) (lt1 rfl) (.gd hg (.tmp (hE.at (k := 1) rfl))) one3 rfl))<| .pure rfl (fun H => .gput (b := ((!y_11) || (decide (y_12.Count < (1 : Int))))) (want := false) (j := 16) (dj := 36) rfl (lt1 rfl) (lt1 rfl) (fun E hE => hE.at (k := 0) rfl) (fun hg E hE => .gtr (lt1 rfl) (.gd hg (.tmp (hE.at (k := 1) rfl))) (.const _ _ _)))<| .pure rfl (fun H => .put (fun E hE => .pickOr (lt1 rfl) (.tmp (hE.at (k := 0) rfl)) (.const _ _ _) (.tmp (hE.at (k := 1) rfl))))<| .nil _) (fun E hE => .c (DInv.at hE (k := 0) rfl rfl rfl)<| .c (DInv.at hE (k := 1) rfl rfl rfl)<| .c (DInv.at hE (k := 2) rfl rfl rfl)<| .c (DInv.at hE (k := 27) rfl rfl rfl)<| .n _) rfl ?_
        refine AWP.vc (s' := ⟨[(1,.rd β3 a1.length (a1.flatMap encR56)),(2,.ptr 1 0),(5,.sc (.int .i64 x_8)),(43,.sc (.bool (((!y_11) || (decide (y_12.Count < (1 : Int)))) || (decide ((1000 : Int) < y_13.Count)))))],[(1,⟨24,false,[.rd β1 a0.Lengths.length (a0.Lengths.flatMap (encI .i64)),.rd β2 a0.Demand.length (a0.Demand.flatMap (encI .i64)),.sc (.int .i64 a0.Stock),.sc (.int .i64 a0.Kerf)]⟩)]⟩) (VC.sub (.c rfl<| .c rfl<| .c rfl<| .c rfl<| .n _) (.c rfl<| .n _)) ?_
        refine AWP.cond (.tmp rfl) (fun hc => ?_) (fun hc => ?_)
        · have h := iteT hc h
          refine AWP.seq ?_
          refine AWP.region (.cons (.assign (lt1 rfl) (.const _ _ _))<| ARun.nil _ _ _) ?_
          refine AWP.ret ?_
          obtain rfl := Option.some.inj h
          refine retJ (Res.vc (s' := ⟨[(4,.sc (.bool false))],[]⟩) (VC.sub (.c rfl<| .n _) (.n _)) ?_)
          refine Res.drop (H := []) rfl ?_
          exact Res.of rfl (.cons (.tmp rfl) (.nil)) rfl rfl
        · have h := iteF hc h
          refine AWP.skip ?_
          obtain ⟨t5_14,ht5_14,h⟩ := letS h
          refine AWP.region (.cons (.move (lt1 rfl) (.tmp rfl))<| .cons (.add (lt1 rfl) (.tmp rfl) (.const _ _ _))<| .cons (.assign (lt1 rfl) (.tmp rfl))<| ARun.nil _ _ _) ?_
          exact endJ t5_14 h (by subst ht5_14; exact VC.sub (.c rfl<| .c rfl<| .c rfl<| .n _) (.c rfl<| .n _))
      · have h := iteF hc h
        refine AWP.exit ?_
        exact endJ () h (VC.sub (.n _) (.n _))
theorem c32 (n : Nat) (a0 : (List R56)) {r : (List R56)} (h : m32 n a0 = some r) : Spec Try.prog 32 [] [.rd false a0.length (a0.flatMap encR56)] [] (.rd false r.length (r.flatMap encR56)) [] := by
  refine Spec.of (fn := Try.f32) Try.func32 Try.ntmps32 rfl rfl (le1 rfl) (fun w0 Zs Zb T0 ι0 => ?_)
  unfold m32 at h
  refine AWP.seq ?_
  refine AWP.region (.cons (.assign (lt1 rfl) (.const _ _ _))<| ARun.nil _ _ _) ?_
  refine AWP.vc (s' := ⟨[(0,.rd false a0.length (a0.flatMap encR56))],[]⟩) (VC.sub (.c rfl<| .n _) (.n _)) ?_
  refine AWP.seq ?_
  refine AWP.region (.cons (.assign (lt1 rfl) (.const _ _ _))<| ARun.nil _ _ _) ?_
  refine AWP.vc (s' := ⟨[(0,.rd false a0.length (a0.flatMap encR56)),(3,.sc (.slice none 0 0))],[]⟩) (VC.sub (.c rfl<| .c rfl<| .n _) (.n _)) ?_
  refine AWP.seq ?_
  refine AWP.seq ?_
  refine AWP.region (.cons (.move (lt1 rfl) (.tmp rfl))<| .cons (.lenRd (lt1 rfl) (.tmp rfl) Try.underlying49)<| .cons (.move (lt1 rfl) (.const _ _ _))<| ARun.nil _ _ _) ?_
  refine AWP.vc (s' := ⟨[(3,.sc (.slice none 0 0)),(6,.rd false a0.length (a0.flatMap encR56)),(7,.sc (.int .i64 (a0.length : Int))),(8,.sc (.int .i64 (0 : Int)))],[]⟩) (VC.sub (.c rfl<| .c rfl<| .c rfl<| .c rfl<| .n _) (.n _)) ?_
  refine AWP.joinB' (S := fun p_14 : (List R56) => ⟨[(3,.own 1 2 0 p_14.length)],[(1,⟨57,true,p_14.flatMap encR56⟩)]⟩) h (fun p_14 h => ?_) (fun k_15 h => ?_)
  · refine AWP.seq ?_
    refine AWP.region (.cons (.move (lt1 rfl) (.tmp rfl))<| .cons (.assign (lt1 rfl) (.tmp rfl))<| ARun.nil _ _ _) ?_
    refine AWP.ret ?_
    obtain rfl := Option.some.inj h
    refine retJ (Res.vc (s' := ⟨[(2,.rd false p_14.length (p_14.flatMap encR56))],[]⟩) (VC.trans (VC.frz (d := 2) (t := 1) rfl rfl encR56_len) (VC.sub (.c rfl<| .n _) (.n _))) ?_)
    refine Res.drop (H := []) rfl ?_
    exact Res.of rfl (.cons (.tmp rfl) (.nil)) rfl rfl
  · refine AWP.vc (VC.nilOwn (d := 3) (t := 1) (sz := 2) (E := 57) rfl (nm rfl)) ?_
    refine AWP.vc (s' := ⟨[(3,.own 1 2 0 ([] : List R56).length),(6,.rd false a0.length (a0.flatMap encR56)),(7,.sc (.int .i64 (a0.length : Int))),(8,.sc (.int .i64 (0 : Int)))],[(1,⟨57,true,([] : List R56).flatMap encR56⟩)]⟩) (VC.sub (.c rfl<| .c rfl<| .c rfl<| .c rfl<| .n _) (.c rfl<| .n _)) ?_
    refine AWP.loopM (S := fun x_9 : Int × (List R56) => ⟨[(3,.own 1 2 0 x_9.2.length),(6,.rd false a0.length (a0.flatMap encR56)),(7,.sc (.int .i64 (a0.length : Int))),(8,.sc (.int .i64 x_9.1))],[(1,⟨57,true,x_9.2.flatMap encR56⟩)]⟩) (x := ((0 : Int),([] : List R56))) (fun nx_10 x_9 h => ?_) h
    unfold m32_L1 at h
    refine AWP.seq ?_
    refine AWP.region (.cons (.lss (lt1 rfl) (.tmp rfl) (.tmp rfl))<| ARun.nil _ _ _) ?_
    refine AWP.vc (s' := ⟨[(3,.own 1 2 0 x_9.2.length),(6,.rd false a0.length (a0.flatMap encR56)),(7,.sc (.int .i64 (a0.length : Int))),(8,.sc (.int .i64 x_9.1)),(9,.sc (.bool (decide (x_9.1 < (a0.length : Int)))))],[(1,⟨57,true,x_9.2.flatMap encR56⟩)]⟩) (VC.sub (.c rfl<| .c rfl<| .c rfl<| .c rfl<| .c rfl<| .n _) (.c rfl<| .n _)) ?_
    refine AWP.seq ?_
    refine AWP.cond (.tmp rfl) (fun hc => ?_) (fun hc => ?_)
    · have h := iteT hc h
      refine AWP.skip ?_
      refine AWP.seq ?_
      refine AWP.block ?_
      refine AWP.seq ?_
      obtain ⟨y_11,hy_11,h⟩ := bindS h
      refine AWP.region (.cons (.indexRd (enc := encR56) (lt1 rfl) (.tmp rfl) (.tmp rfl) Try.underlying49 sz78 encR56_len rfl hy_11)<| .cons (.loadRA (out := [.rd false y_11.Pattern.length (y_11.Pattern.flatMap (encI .i64)),.sc (.int .i64 y_11.Count)]) (lt1 rfl) (.tmp rfl) agg78 (Nat.le_of_eq (Eq.symm (encR56_len _))) rfl)<| .cons (.alloc (t := 2) (k := ⟨78,false,[.sc (.slice none 0 0),.sc (.int .i64 (0 : Int))]⟩) (lt1 rfl) (nm rfl) zero78 rfl rfl)<| .cons (.storePA (.tmp rfl) (.tmp rfl) sz78 rfl rfl (le1 rfl) (one_lit rfl) (by intro h; cases h) rfl)<| ARun.nil _ _ _) ?_
      refine AWP.vc (s' := ⟨[(3,.own 1 2 0 x_9.2.length),(6,.rd false a0.length (a0.flatMap encR56)),(7,.sc (.int .i64 (a0.length : Int))),(8,.sc (.int .i64 x_9.1)),(5,.ptr 2 0)],[(2,⟨78,false,[.rd false y_11.Pattern.length (y_11.Pattern.flatMap (encI .i64)),.sc (.int .i64 y_11.Count)]⟩),(1,⟨57,true,x_9.2.flatMap encR56⟩)]⟩) (VC.sub (.c rfl<| .c rfl<| .c rfl<| .c rfl<| .c rfl<| .n _) (.c rfl<| .c rfl<| .n _)) ?_
      obtain ⟨l1_12,hl1_12,h⟩ := bindS h
      refine AWP.region (.cons (.move (lt1 rfl) (.tmp rfl))<| .cons (.loadPA (lt1 rfl) (.tmp rfl) agg78 rfl rfl rfl rfl)<| .cons (.buildSlice (t := 3) (out := ([(R56.mk y_11.Pattern y_11.Count)] : List R56).flatMap encR56) (lt1 rfl) (nm rfl) (.cons (.tmp rfl) (by first | exact ⟨rfl,rfl⟩ | rfl) (.nil)) Try.underlying53 zero57 el57 (by decide) (by decide) rfl (still_all encR56_still _))<| .cons (.app (enc := encR56) (lt1 rfl) (nm rfl) (.tmp rfl) (Src.own (.tmp rfl) rfl (lendAll encR56_len _) (flatMap_length encR56_len _) (one_all encR56_one _) (.inl rfl)) Try.underlying53 ⟨_,Try.underlying53,by intro k hk; cases hk⟩ el57 rfl encR56_len rfl rfl (by decide) hl1_12)<| .cons (.assign (lt1 rfl) (.tmp rfl))<| ARun.nil _ _ _) ?_
      refine AWP.vc (s' := ⟨[(3,.own 1 2 0 l1_12.length),(6,.rd false a0.length (a0.flatMap encR56)),(7,.sc (.int .i64 (a0.length : Int))),(8,.sc (.int .i64 x_9.1))],[(1,⟨57,true,l1_12.flatMap encR56⟩)]⟩) (VC.sub (.c rfl<| .c rfl<| .c rfl<| .c rfl<| .n _) (.c rfl<| .n _)) ?_
      obtain ⟨t8_13,ht8_13,h⟩ := letS h
      refine AWP.region (.cons (.add (lt1 rfl) (.tmp rfl) (.const _ _ _))<| .cons (.move (lt1 rfl) (.tmp rfl))<| ARun.nil _ _ _) ?_
      exact endJ (t8_13,l1_12) h (by subst ht8_13; exact VC.sub (.c rfl<| .c rfl<| .c rfl<| .c rfl<| .n _) (.c rfl<| .n _))
    · have h := iteF hc h
      refine AWP.exit ?_
      exact endJ x_9.2 h (VC.sub (.c rfl<| .n _) (.c rfl<| .n _))
theorem c52 {β1 : Bool} {β2 : Bool} (n : Nat) (a0 : (List Int)) (a1 : (List Int)) {r : Bool} (h : m52 n a0 a1 = some r) : Spec Try.prog 52 [] [.rd β1 a0.length (a0.flatMap (encI .i64)),.rd β2 a1.length (a1.flatMap (encI .i64))] [] (.sc (.bool r)) [] := by
  refine Spec.of (fn := Try.f52) Try.func52 Try.ntmps52 rfl rfl (le1 rfl) (fun w0 Zs Zb T0 ι0 => ?_)
  unfold m52 at h
  refine AWP.seq ?_
  refine AWP.region (.cons (.assign (lt1 rfl) (.const _ _ _))<| ARun.nil _ _ _) ?_
  refine AWP.vc (s' := ⟨[(0,.rd β1 a0.length (a0.flatMap (encI .i64))),(1,.rd β2 a1.length (a1.flatMap (encI .i64)))],[]⟩) (VC.sub (.c rfl<| .c rfl<| .n _) (.n _)) ?_
  refine AWP.seq ?_
  refine AWP.seq ?_
  refine AWP.region (.cons (.move (lt1 rfl) (.tmp rfl))<| .cons (.lenRd (lt1 rfl) (.tmp rfl) Try.underlying22)<| .cons (.move (lt1 rfl) (.tmp rfl))<| .cons (.lenRd (lt1 rfl) (.tmp rfl) Try.underlying22)<| .cons (.neq (lt1 rfl) (.tmp rfl) (.tmp rfl))<| ARun.nil _ _ _) ?_
  refine AWP.vc (s' := ⟨[(0,.rd β1 a0.length (a0.flatMap (encI .i64))),(1,.rd β2 a1.length (a1.flatMap (encI .i64))),(10,.sc (.bool (!decide ((a0.length : Int) = (a1.length : Int)))))],[]⟩) (VC.sub (.c rfl<| .c rfl<| .c rfl<| .n _) (.n _)) ?_
  refine AWP.cond (.tmp rfl) (fun hc => ?_) (fun hc => ?_)
  · have h := iteT hc h
    refine AWP.seq ?_
    refine AWP.region (.cons (.assign (lt1 rfl) (.const _ _ _))<| ARun.nil _ _ _) ?_
    refine AWP.ret ?_
    obtain rfl := Option.some.inj h
    refine retJ (Res.vc (s' := ⟨[(4,.sc (.bool false))],[]⟩) (VC.sub (.c rfl<| .n _) (.n _)) ?_)
    refine Res.drop (H := []) rfl ?_
    exact Res.of rfl (.cons (.tmp rfl) (.nil)) rfl rfl
  · have h := iteF hc h
    refine AWP.skip ?_
    refine AWP.seq ?_
    refine AWP.seq ?_
    refine AWP.region (.cons (.move (lt1 rfl) (.tmp rfl))<| .cons (.lenRd (lt1 rfl) (.tmp rfl) Try.underlying22)<| .cons (.move (lt1 rfl) (.const _ _ _))<| ARun.nil _ _ _) ?_
    refine AWP.vc (s' := ⟨[(0,.rd β1 a0.length (a0.flatMap (encI .i64))),(1,.rd β2 a1.length (a1.flatMap (encI .i64))),(12,.sc (.int .i64 (a0.length : Int))),(13,.sc (.int .i64 (0 : Int)))],[]⟩) (VC.sub (.c rfl<| .c rfl<| .c rfl<| .c rfl<| .n _) (.n _)) ?_
    refine AWP.joinB' (S := fun p_10 : Unit => ⟨[],[]⟩) h (fun p_10 h => ?_) (fun k_11 h => ?_)
    · refine AWP.seq ?_
      refine AWP.region (.cons (.assign (lt1 rfl) (.const _ _ _))<| ARun.nil _ _ _) ?_
      refine AWP.ret ?_
      obtain rfl := Option.some.inj h
      refine retJ (Res.vc (s' := ⟨[(4,.sc (.bool true))],[]⟩) (VC.sub (.c rfl<| .n _) (.n _)) ?_)
      refine Res.drop (H := []) rfl ?_
      exact Res.of rfl (.cons (.tmp rfl) (.nil)) rfl rfl
    · refine AWP.vc (s' := ⟨[(0,.rd β1 a0.length (a0.flatMap (encI .i64))),(1,.rd β2 a1.length (a1.flatMap (encI .i64))),(12,.sc (.int .i64 (a0.length : Int))),(13,.sc (.int .i64 (0 : Int)))],[]⟩) (VC.sub (.c rfl<| .c rfl<| .c rfl<| .c rfl<| .n _) (.n _)) ?_
      refine AWP.loopM (S := fun x_5 : Int => ⟨[(0,.rd β1 a0.length (a0.flatMap (encI .i64))),(1,.rd β2 a1.length (a1.flatMap (encI .i64))),(12,.sc (.int .i64 (a0.length : Int))),(13,.sc (.int .i64 x_5))],[]⟩) (x := (0 : Int)) (fun nx_6 x_5 h => ?_) h
      unfold m52_L1 at h
      refine AWP.seq ?_
      refine AWP.region (.cons (.lss (lt1 rfl) (.tmp rfl) (.tmp rfl))<| ARun.nil _ _ _) ?_
      refine AWP.vc (s' := ⟨[(0,.rd β1 a0.length (a0.flatMap (encI .i64))),(1,.rd β2 a1.length (a1.flatMap (encI .i64))),(12,.sc (.int .i64 (a0.length : Int))),(13,.sc (.int .i64 x_5)),(14,.sc (.bool (decide (x_5 < (a0.length : Int)))))],[]⟩) (VC.sub (.c rfl<| .c rfl<| .c rfl<| .c rfl<| .c rfl<| .n _) (.n _)) ?_
      refine AWP.seq ?_
      refine AWP.cond (.tmp rfl) (fun hc => ?_) (fun hc => ?_)
      · have h := iteT hc h
        refine AWP.skip ?_
        refine AWP.seq ?_
        refine AWP.block ?_
        refine AWP.seq ?_
        refine AWP.region (.cons (.move (lt1 rfl) (.tmp rfl))<| .cons (.assign (lt1 rfl) (.tmp rfl))<| ARun.nil _ _ _) ?_
        refine AWP.vc (s' := ⟨[(0,.rd β1 a0.length (a0.flatMap (encI .i64))),(1,.rd β2 a1.length (a1.flatMap (encI .i64))),(12,.sc (.int .i64 (a0.length : Int))),(13,.sc (.int .i64 x_5)),(5,.sc (.int .i64 x_5))],[]⟩) (VC.sub (.c rfl<| .c rfl<| .c rfl<| .c rfl<| .c rfl<| .n _) (.n _)) ?_
        refine AWP.seq ?_
        obtain ⟨y_7,hy_7,h⟩ := bindS h
        obtain ⟨y_8,hy_8,h⟩ := bindS h
        refine AWP.draw (s' := ⟨[(0,.rd β1 a0.length (a0.flatMap (encI .i64))),(1,.rd β2 a1.length (a1.flatMap (encI .i64))),(12,.sc (.int .i64 (a0.length : Int))),(13,.sc (.int .i64 x_5)),(24,.sc (.bool (!decide (y_7 = y_8))))],[]⟩) mixed [⟨0,.rd β1 a0.length (a0.flatMap (encI .i64)),none,[]⟩,⟨1,.rd β2 a1.length (a1.flatMap (encI .i64)),none,[]⟩,⟨5,.sc (.int .i64 x_5),none,[]⟩,⟨12,.sc (.int .i64 (a0.length : Int)),none,[]⟩,⟨13,.sc (.int .i64 x_5),none,[]⟩,⟨16,.rd β1 a0.length (a0.flatMap (encI .i64)),some 0,[]⟩,⟨17,.sc (.int .i64 x_5),some 1,[]⟩,⟨18,.rptr β1 [.sc (.int .i64 y_7)],some 2,[]⟩,⟨19,.sc (.int .i64 y_7),some 3,[]⟩,⟨20,.rd β2 a1.length (a1.flatMap (encI .i64)),some 4,[]⟩,⟨21,.sc (.int .i64 x_5),some 5,[]⟩,⟨22,.rptr β2 [.sc (.int .i64 y_8)],some 6,[]⟩,⟨23,.sc (.int .i64 y_8),some 7,[]⟩,⟨24,.sc (.bool (!decide (y_7 = y_8))),some 8,[]⟩] [⟨[0],0,0,some (16,.rd β1 a0.length (a0.flatMap (encI .i64))),[]⟩,⟨[2],0,0,some (17,.sc (.int .i64 x_5)),[]⟩,⟨[5,6],0,0,some (18,.rptr β1 [.sc (.int .i64 y_7)]),[]⟩,⟨[7],0,0,some (19,.sc (.int .i64 y_7)),[]⟩,⟨[1],0,0,some (20,.rd β2 a1.length (a1.flatMap (encI .i64))),[]⟩,⟨[2],0,0,some (21,.sc (.int .i64 x_5)),[]⟩,⟨[9,10],0,0,some (22,.rptr β2 [.sc (.int .i64 y_8)]),[]⟩,⟨[11],0,0,some (23,.sc (.int .i64 y_8)),[]⟩,⟨[8,12],0,0,some (24,.sc (.bool (!decide (y_7 = y_8)))),[]⟩] [] [[]] [[],[],[0,1],[0,1,2],[],[],[4,5],[4,5,6],[0,1,2,3,4,5,6,7]] (by kernel_rfl) (by kernel_rfl) (BornL.ok (.o<| .o<| .o<| .o<| .o<| .b rfl rfl<| .b rfl rfl<| .b rfl rfl<| .b rfl rfl<| .b rfl rfl<| .b rfl rfl<| .b rfl rfl<| .b rfl rfl<| .b rfl rfl<| .n)) (BaseL.ok (.o rfl<| .o rfl<| .o rfl<| .o rfl<| .o rfl<| .b<| .b<| .b<| .b<| .b<| .b<| .b<| .b<| .b<| .n)) rfl (by decide) (allLt rfl) (.pure rfl (fun H => .put (fun E hE => .move (lt1 rfl) (.tmp (hE.at (k := 0) rfl))))<| .pure rfl (fun H => .put (fun E hE => .move (lt1 rfl) (.tmp (hE.at (k := 0) rfl))))<| .pure rfl (fun H => .put (fun E hE => .indexRd (enc := (encI .i64)) (lt1 rfl) (.tmp (hE.at (k := 0) rfl)) (.tmp (hE.at (k := 1) rfl)) Try.underlying22 sz3 (encI_len .i64) rfl hy_7))<| .pure rfl (fun H => .put (fun E hE => .loadR (v := .sc (.int .i64 y_7)) (lt1 rfl) (.tmp (hE.at (k := 0) rfl)) one3 rfl))<| .pure rfl (fun H => .put (fun E hE => .move (lt1 rfl) (.tmp (hE.at (k := 0) rfl))))<| .pure rfl (fun H => .put (fun E hE => .move (lt1 rfl) (.tmp (hE.at (k := 0) rfl))))<| .pure rfl (fun H => .put (fun E hE => .indexRd (enc := (encI .i64)) (lt1 rfl) (.tmp (hE.at (k := 0) rfl)) (.tmp (hE.at (k := 1) rfl)) Try.underlying22 sz3 (encI_len .i64) rfl hy_8))<| .pure rfl (fun H => .put (fun E hE => .loadR (v := .sc (.int .i64 y_8)) (lt1 rfl) (.tmp (hE.at (k := 0) rfl)) one3 rfl))<| .pure rfl (fun H => .put (fun E hE => .neq (lt1 rfl) (.tmp (hE.at (k := 0) rfl)) (.tmp (hE.at (k := 1) rfl))))<| .nil _) (fun E hE => .c (DInv.at hE (k := 0) rfl rfl rfl)<| .c (DInv.at hE (k := 1) rfl rfl rfl)<| .c (DInv.at hE (k := 3) rfl rfl rfl)<| .c (DInv.at hE (k := 4) rfl rfl rfl)<| .c (DInv.at hE (k := 13) rfl rfl rfl)<| .n _) rfl ?_
        refine AWP.vc (s' := ⟨[(0,.rd β1 a0.length (a0.flatMap (encI .i64))),(1,.rd β2 a1.length (a1.flatMap (encI .i64))),(12,.sc (.int .i64 (a0.length : Int))),(13,.sc (.int .i64 x_5)),(24,.sc (.bool (!decide (y_7 = y_8))))],[]⟩) (VC.sub (.c rfl<| .c rfl<| .c rfl<| .c rfl<| .c rfl<| .n _) (.n _)) ?_
        refine AWP.cond (.tmp rfl) (fun hc => ?_) (fun hc => ?_)
        · have h := iteT hc h
          refine AWP.seq ?_
          refine AWP.region (.cons (.assign (lt1 rfl) (.const _ _ _))<| ARun.nil _ _ _) ?_
          refine AWP.ret ?_
          obtain rfl := Option.some.inj h
          refine retJ (Res.vc (s' := ⟨[(4,.sc (.bool false))],[]⟩) (VC.sub (.c rfl<| .n _) (.n _)) ?_)
          refine Res.drop (H := []) rfl ?_
          exact Res.of rfl (.cons (.tmp rfl) (.nil)) rfl rfl
        · have h := iteF hc h
          refine AWP.skip ?_
          obtain ⟨t13_9,ht13_9,h⟩ := letS h
          refine AWP.region (.cons (.add (lt1 rfl) (.tmp rfl) (.const _ _ _))<| .cons (.move (lt1 rfl) (.tmp rfl))<| ARun.nil _ _ _) ?_
          exact endJ t13_9 h (by subst ht13_9; exact VC.sub (.c rfl<| .c rfl<| .c rfl<| .c rfl<| .n _) (.n _))
      · have h := iteF hc h
        refine AWP.exit ?_
        exact endJ () h (VC.sub (.n _) (.n _))
theorem c51 {β1 : Bool} {β2 : Bool} (n : Nat) (a0 : R56) (a1_b0 : (List Int)) (a1_b1 : Int) {r : Bool} (h : m51 n a0 a1_b0 a1_b1 = some r) : Spec Try.prog 51 [1] [.agg [.rd β1 a0.Pattern.length (a0.Pattern.flatMap (encI .i64)),.sc (.int .i64 a0.Count)],.ptr 1 0] [(1,⟨57,false,[.rd β2 a1_b0.length (a1_b0.flatMap (encI .i64)),.sc (.int .i64 a1_b1)]⟩)] (.sc (.bool r)) [(1,⟨57,false,[.rd β2 a1_b0.length (a1_b0.flatMap (encI .i64)),.sc (.int .i64 a1_b1)]⟩)] := by
  refine Spec.of (fn := Try.f51) Try.func51 Try.ntmps51 rfl rfl (le1 rfl) (fun w0 Zs Zb T0 ι0 => ?_)
  unfold m51 at h
  refine AWP.seq ?_
  refine AWP.region (.cons (.box (t := 2) (n := 2) (lt1 rfl) (nm rfl) (.tmp rfl) (by first | exact ⟨rfl,rfl⟩ | rfl) rfl)<| .cons (.assign (lt1 rfl) (.const _ _ _))<| ARun.nil _ _ _) ?_
  refine AWP.vc (s' := ⟨[(1,.ptr 1 0),(2,.ptr 2 0)],[(2,⟨57,false,[.rd β1 a0.Pattern.length (a0.Pattern.flatMap (encI .i64)),.sc (.int .i64 a0.Count)]⟩),(1,⟨57,false,[.rd β2 a1_b0.length (a1_b0.flatMap (encI .i64)),.sc (.int .i64 a1_b1)]⟩)]⟩) (VC.sub (.c rfl<| .c rfl<| .n _) (.c rfl<| .c rfl<| .n _)) ?_
  refine AWP.seq ?_
  obtain ⟨y_1,hy_1,h⟩ := bindS h
  refine AWP.region (.cons (.fieldP (lt1 rfl) (.tmp rfl) fld57_0)<| .cons (.loadP (lt1 rfl) (.tmp rfl) one22 rfl rfl rfl)<| .cons (.fieldP (lt1 rfl) (.tmp rfl) fld57_0)<| .cons (.loadP (lt1 rfl) (.tmp rfl) one22 rfl rfl rfl)<| .cons (.call0 (bw := false) (lt1 rfl) (c52 (β1 := β2) (β2 := β1) n a1_b0 a0.Pattern hy_1) (.cons (.tmp rfl) (.ren rfl) (.cons (.tmp rfl) (.ren rfl) (.nil))) rfl)<| .cons (.assign (lt1 rfl) (.tmp rfl))<| ARun.nil _ _ _) ?_
  refine AWP.ret ?_
  obtain rfl := Option.some.inj h
  refine retJ (Res.vc (s' := ⟨[(3,.sc (.bool y_1))],[(1,⟨57,false,[.rd β2 a1_b0.length (a1_b0.flatMap (encI .i64)),.sc (.int .i64 a1_b1)]⟩)]⟩) (VC.sub (.c rfl<| .n _) (.c rfl<| .n _)) ?_)
  refine Res.sub (H := [(1,⟨57,false,[.rd β2 a1_b0.length (a1_b0.flatMap (encI .i64)),.sc (.int .i64 a1_b1)]⟩)]) (.c rfl<| .n _) ?_
  exact Res.of rfl (.cons (.tmp rfl) (.nil)) rfl rfl
theorem c50 {β1 : Bool} {β2 : Bool} (n : Nat) (a0 : (List R56)) (a1_0_b0 : (List Int)) (a1_0_b1 : Int) {r : Int} (h : m50 n a0 a1_0_b0 a1_0_b1 = some r) : Spec Try.prog 50 [1] [.rd β1 a0.length (a0.flatMap encR56),.clo (.func 51) [] [.ptr 1 0]] [(1,⟨57,false,[.rd β2 a1_0_b0.length (a1_0_b0.flatMap (encI .i64)),.sc (.int .i64 a1_0_b1)]⟩)] (.sc (.int .i64 r)) [(1,⟨57,false,[.rd β2 a1_0_b0.length (a1_0_b0.flatMap (encI .i64)),.sc (.int .i64 a1_0_b1)]⟩)] := by
  refine Spec.of (fn := Try.f50) Try.func50 Try.ntmps50 rfl rfl (le1 rfl) (fun w0 Zs Zb T0 ι0 => ?_)
  unfold m50 at h
  refine AWP.seq ?_
  refine AWP.region (.cons (.assign (lt1 rfl) (.const _ _ _))<| ARun.nil _ _ _) ?_
  refine AWP.vc (s' := ⟨[(0,.rd β1 a0.length (a0.flatMap encR56)),(1,.clo (.func 51) [] [.ptr 1 0])],[(1,⟨57,false,[.rd β2 a1_0_b0.length (a1_0_b0.flatMap (encI .i64)),.sc (.int .i64 a1_0_b1)]⟩)]⟩) (VC.sub (.c rfl<| .c rfl<| .n _) (.c rfl<| .n _)) ?_
  refine AWP.seq ?_
  refine AWP.seq ?_
  refine AWP.region (.cons (.move (lt1 rfl) (.tmp rfl))<| .cons (.lenRd (lt1 rfl) (.tmp rfl) Try.underlying53)<| .cons (.move (lt1 rfl) (.const _ _ _))<| ARun.nil _ _ _) ?_
  refine AWP.vc (s' := ⟨[(0,.rd β1 a0.length (a0.flatMap encR56)),(1,.clo (.func 51) [] [.ptr 1 0]),(7,.sc (.int .i64 (a0.length : Int))),(8,.sc (.int .i64 (0 : Int)))],[(1,⟨57,false,[.rd β2 a1_0_b0.length (a1_0_b0.flatMap (encI .i64)),.sc (.int .i64 a1_0_b1)]⟩)]⟩) (VC.sub (.c rfl<| .c rfl<| .c rfl<| .c rfl<| .n _) (.c rfl<| .n _)) ?_
  refine AWP.joinB' (S := fun p_10 : Unit => ⟨[],[(1,⟨57,false,[.rd β2 a1_0_b0.length (a1_0_b0.flatMap (encI .i64)),.sc (.int .i64 a1_0_b1)]⟩)]⟩) h (fun p_10 h => ?_) (fun k_11 h => ?_)
  · refine AWP.seq ?_
    refine AWP.region (.cons (.assign (lt1 rfl) (.const _ _ _))<| ARun.nil _ _ _) ?_
    refine AWP.ret ?_
    obtain rfl := Option.some.inj h
    refine retJ (Res.vc (s' := ⟨[(4,.sc (.int .i64 (-1 : Int)))],[(1,⟨57,false,[.rd β2 a1_0_b0.length (a1_0_b0.flatMap (encI .i64)),.sc (.int .i64 a1_0_b1)]⟩)]⟩) (VC.sub (.c rfl<| .n _) (.c rfl<| .n _)) ?_)
    refine Res.sub (H := [(1,⟨57,false,[.rd β2 a1_0_b0.length (a1_0_b0.flatMap (encI .i64)),.sc (.int .i64 a1_0_b1)]⟩)]) (.c rfl<| .n _) ?_
    exact Res.of rfl (.cons (.tmp rfl) (.nil)) rfl rfl
  · refine AWP.vc (s' := ⟨[(0,.rd β1 a0.length (a0.flatMap encR56)),(1,.clo (.func 51) [] [.ptr 1 0]),(7,.sc (.int .i64 (a0.length : Int))),(8,.sc (.int .i64 (0 : Int)))],[(1,⟨57,false,[.rd β2 a1_0_b0.length (a1_0_b0.flatMap (encI .i64)),.sc (.int .i64 a1_0_b1)]⟩)]⟩) (VC.sub (.c rfl<| .c rfl<| .c rfl<| .c rfl<| .n _) (.c rfl<| .n _)) ?_
    refine AWP.loopM (S := fun x_5 : Int => ⟨[(0,.rd β1 a0.length (a0.flatMap encR56)),(1,.clo (.func 51) [] [.ptr 1 0]),(7,.sc (.int .i64 (a0.length : Int))),(8,.sc (.int .i64 x_5))],[(1,⟨57,false,[.rd β2 a1_0_b0.length (a1_0_b0.flatMap (encI .i64)),.sc (.int .i64 a1_0_b1)]⟩)]⟩) (x := (0 : Int)) (fun nx_6 x_5 h => ?_) h
    unfold m50_L1 at h
    refine AWP.seq ?_
    refine AWP.region (.cons (.lss (lt1 rfl) (.tmp rfl) (.tmp rfl))<| ARun.nil _ _ _) ?_
    refine AWP.vc (s' := ⟨[(0,.rd β1 a0.length (a0.flatMap encR56)),(1,.clo (.func 51) [] [.ptr 1 0]),(7,.sc (.int .i64 (a0.length : Int))),(8,.sc (.int .i64 x_5)),(9,.sc (.bool (decide (x_5 < (a0.length : Int)))))],[(1,⟨57,false,[.rd β2 a1_0_b0.length (a1_0_b0.flatMap (encI .i64)),.sc (.int .i64 a1_0_b1)]⟩)]⟩) (VC.sub (.c rfl<| .c rfl<| .c rfl<| .c rfl<| .c rfl<| .n _) (.c rfl<| .n _)) ?_
    refine AWP.seq ?_
    refine AWP.cond (.tmp rfl) (fun hc => ?_) (fun hc => ?_)
    · have h := iteT hc h
      refine AWP.skip ?_
      refine AWP.seq ?_
      refine AWP.block ?_
      refine AWP.seq ?_
      refine AWP.region (.cons (.move (lt1 rfl) (.tmp rfl))<| .cons (.assign (lt1 rfl) (.tmp rfl))<| ARun.nil _ _ _) ?_
      refine AWP.vc (s' := ⟨[(0,.rd β1 a0.length (a0.flatMap encR56)),(1,.clo (.func 51) [] [.ptr 1 0]),(7,.sc (.int .i64 (a0.length : Int))),(8,.sc (.int .i64 x_5)),(5,.sc (.int .i64 x_5))],[(1,⟨57,false,[.rd β2 a1_0_b0.length (a1_0_b0.flatMap (encI .i64)),.sc (.int .i64 a1_0_b1)]⟩)]⟩) (VC.sub (.c rfl<| .c rfl<| .c rfl<| .c rfl<| .c rfl<| .n _) (.c rfl<| .n _)) ?_
      refine AWP.seq ?_
      obtain ⟨y_7,hy_7,h⟩ := bindS h
      obtain ⟨y_8,hy_8,h⟩ := bindS h
      refine AWP.region (.cons (.move (lt1 rfl) (.tmp rfl))<| .cons (.move (lt1 rfl) (.tmp rfl))<| .cons (.move (lt1 rfl) (.tmp rfl))<| .cons (.indexRd (enc := encR56) (lt1 rfl) (.tmp rfl) (.tmp rfl) Try.underlying53 sz57 encR56_len rfl hy_7)<| .cons (.loadRA (out := [.rd β1 y_7.Pattern.length (y_7.Pattern.flatMap (encI .i64)),.sc (.int .i64 y_7.Count)]) (lt1 rfl) (.tmp rfl) agg57 (Nat.le_of_eq (Eq.symm (encR56_len _))) rfl)<| .cons (.keep (bw := false) (AStep.callV (us' := []) (avs := [.agg [.rd β1 ((R56.mk y_7.Pattern y_7.Count).Pattern).length (((R56.mk y_7.Pattern y_7.Count).Pattern).flatMap (encI .i64)),.sc (.int .i64 ((R56.mk y_7.Pattern y_7.Count).Count))]]) (cs' := [.ptr 1 0]) (σ := fun _ => 1) (bw := false) (lt1 rfl) (.tmp rfl) (c51 (β1 := β1) (β2 := β2) n (R56.mk y_7.Pattern y_7.Count) a1_0_b0 a1_0_b1 hy_8) (.nil) (.cons (.tmp rfl) (.ren rfl) (.nil)) (.cons (.ren rfl) (.nil)) (CallOk.mk' (.c rfl (.n)) rfl) (fun _ h => by cases h)) (CallOk.mk' (.c rfl (.n)) rfl) rfl rfl)<| ARun.nil _ _ _) ?_
      refine AWP.vc (s' := ⟨[(0,.rd β1 a0.length (a0.flatMap encR56)),(1,.clo (.func 51) [] [.ptr 1 0]),(7,.sc (.int .i64 (a0.length : Int))),(8,.sc (.int .i64 x_5)),(5,.sc (.int .i64 x_5)),(16,.sc (.bool y_8))],[(1,⟨57,false,[.rd β2 a1_0_b0.length (a1_0_b0.flatMap (encI .i64)),.sc (.int .i64 a1_0_b1)]⟩)]⟩) (VC.sub (.c rfl<| .c rfl<| .c rfl<| .c rfl<| .c rfl<| .c rfl<| .n _) (.c rfl<| .n _)) ?_
      refine AWP.cond (.tmp rfl) (fun hc => ?_) (fun hc => ?_)
      · have h := iteT hc h
        refine AWP.seq ?_
        refine AWP.region (.cons (.move (lt1 rfl) (.tmp rfl))<| .cons (.assign (lt1 rfl) (.tmp rfl))<| ARun.nil _ _ _) ?_
        refine AWP.ret ?_
        obtain rfl := Option.some.inj h
        refine retJ (Res.vc (s' := ⟨[(4,.sc (.int .i64 x_5))],[(1,⟨57,false,[.rd β2 a1_0_b0.length (a1_0_b0.flatMap (encI .i64)),.sc (.int .i64 a1_0_b1)]⟩)]⟩) (VC.sub (.c rfl<| .n _) (.c rfl<| .n _)) ?_)
        refine Res.sub (H := [(1,⟨57,false,[.rd β2 a1_0_b0.length (a1_0_b0.flatMap (encI .i64)),.sc (.int .i64 a1_0_b1)]⟩)]) (.c rfl<| .n _) ?_
        exact Res.of rfl (.cons (.tmp rfl) (.nil)) rfl rfl
      · have h := iteF hc h
        refine AWP.skip ?_
        obtain ⟨t8_9,ht8_9,h⟩ := letS h
        refine AWP.region (.cons (.add (lt1 rfl) (.tmp rfl) (.const _ _ _))<| .cons (.move (lt1 rfl) (.tmp rfl))<| ARun.nil _ _ _) ?_
        exact endJ t8_9 h (by subst ht8_9; exact VC.sub (.c rfl<| .c rfl<| .c rfl<| .c rfl<| .n _) (.c rfl<| .n _))
    · have h := iteF hc h
      refine AWP.exit ?_
      exact endJ () h (VC.sub (.n _) (.c rfl<| .n _))
theorem c55 {β1 : Bool} (n : Nat) (a0 : R56) {r : Bool} (h : m55 n a0 = some r) : Spec Try.prog 55 [] [.agg [.rd β1 a0.Pattern.length (a0.Pattern.flatMap (encI .i64)),.sc (.int .i64 a0.Count)]] [] (.sc (.bool r)) [] := by
  refine Spec.of (fn := Try.f55) Try.func55 Try.ntmps55 rfl rfl (le1 rfl) (fun w0 Zs Zb T0 ι0 => ?_)
  unfold m55 at h
  refine AWP.seq ?_
  refine AWP.region (.cons (.box (t := 1) (n := 2) (lt1 rfl) (nm rfl) (.tmp rfl) (by first | exact ⟨rfl,rfl⟩ | rfl) rfl)<| .cons (.assign (lt1 rfl) (.const _ _ _))<| ARun.nil _ _ _) ?_
  refine AWP.vc (s' := ⟨[(1,.ptr 1 0)],[(1,⟨57,false,[.rd β1 a0.Pattern.length (a0.Pattern.flatMap (encI .i64)),.sc (.int .i64 a0.Count)]⟩)]⟩) (VC.sub (.c rfl<| .n _) (.c rfl<| .n _)) ?_
  refine AWP.seq ?_
  refine AWP.region (.cons (.fieldP (lt1 rfl) (.tmp rfl) fld57_1)<| .cons (.loadP (lt1 rfl) (.tmp rfl) one3 rfl rfl rfl)<| .cons (.lss (lt1 rfl) (.tmp rfl) (.const _ _ _))<| .cons (.assign (lt1 rfl) (.tmp rfl))<| ARun.nil _ _ _) ?_
  refine AWP.ret ?_
  obtain rfl := Option.some.inj h
  refine retJ (Res.vc (s' := ⟨[(2,.sc (.bool (decide (a0.Count < (1 : Int)))))],[]⟩) (VC.sub (.c rfl<| .n _) (.n _)) ?_)
  refine Res.drop (H := []) rfl ?_
  exact Res.of rfl (.cons (.tmp rfl) (.nil)) rfl rfl
theorem c50x1 {β1 : Bool} (n : Nat) (a0 : (List R56)) {r : Int} (h : m50x1 n a0 = some r) : Spec Try.prog 50 [] [.rd β1 a0.length (a0.flatMap encR56),.clo (.func 55) [] []] [] (.sc (.int .i64 r)) [] := by
  refine Spec.of (fn := Try.f50) Try.func50 Try.ntmps50 rfl rfl (le1 rfl) (fun w0 Zs Zb T0 ι0 => ?_)
  unfold m50x1 at h
  refine AWP.seq ?_
  refine AWP.region (.cons (.assign (lt1 rfl) (.const _ _ _))<| ARun.nil _ _ _) ?_
  refine AWP.vc (s' := ⟨[(0,.rd β1 a0.length (a0.flatMap encR56)),(1,.clo (.func 55) [] [])],[]⟩) (VC.sub (.c rfl<| .c rfl<| .n _) (.n _)) ?_
  refine AWP.seq ?_
  refine AWP.seq ?_
  refine AWP.region (.cons (.move (lt1 rfl) (.tmp rfl))<| .cons (.lenRd (lt1 rfl) (.tmp rfl) Try.underlying53)<| .cons (.move (lt1 rfl) (.const _ _ _))<| ARun.nil _ _ _) ?_
  refine AWP.vc (s' := ⟨[(0,.rd β1 a0.length (a0.flatMap encR56)),(1,.clo (.func 55) [] []),(7,.sc (.int .i64 (a0.length : Int))),(8,.sc (.int .i64 (0 : Int)))],[]⟩) (VC.sub (.c rfl<| .c rfl<| .c rfl<| .c rfl<| .n _) (.n _)) ?_
  refine AWP.joinB' (S := fun p_10 : Unit => ⟨[],[]⟩) h (fun p_10 h => ?_) (fun k_11 h => ?_)
  · refine AWP.seq ?_
    refine AWP.region (.cons (.assign (lt1 rfl) (.const _ _ _))<| ARun.nil _ _ _) ?_
    refine AWP.ret ?_
    obtain rfl := Option.some.inj h
    refine retJ (Res.vc (s' := ⟨[(4,.sc (.int .i64 (-1 : Int)))],[]⟩) (VC.sub (.c rfl<| .n _) (.n _)) ?_)
    refine Res.drop (H := []) rfl ?_
    exact Res.of rfl (.cons (.tmp rfl) (.nil)) rfl rfl
  · refine AWP.vc (s' := ⟨[(0,.rd β1 a0.length (a0.flatMap encR56)),(1,.clo (.func 55) [] []),(7,.sc (.int .i64 (a0.length : Int))),(8,.sc (.int .i64 (0 : Int)))],[]⟩) (VC.sub (.c rfl<| .c rfl<| .c rfl<| .c rfl<| .n _) (.n _)) ?_
    refine AWP.loopM (S := fun x_5 : Int => ⟨[(0,.rd β1 a0.length (a0.flatMap encR56)),(1,.clo (.func 55) [] []),(7,.sc (.int .i64 (a0.length : Int))),(8,.sc (.int .i64 x_5))],[]⟩) (x := (0 : Int)) (fun nx_6 x_5 h => ?_) h
    unfold m50x1_L1 at h
    refine AWP.seq ?_
    refine AWP.region (.cons (.lss (lt1 rfl) (.tmp rfl) (.tmp rfl))<| ARun.nil _ _ _) ?_
    refine AWP.vc (s' := ⟨[(0,.rd β1 a0.length (a0.flatMap encR56)),(1,.clo (.func 55) [] []),(7,.sc (.int .i64 (a0.length : Int))),(8,.sc (.int .i64 x_5)),(9,.sc (.bool (decide (x_5 < (a0.length : Int)))))],[]⟩) (VC.sub (.c rfl<| .c rfl<| .c rfl<| .c rfl<| .c rfl<| .n _) (.n _)) ?_
    refine AWP.seq ?_
    refine AWP.cond (.tmp rfl) (fun hc => ?_) (fun hc => ?_)
    · have h := iteT hc h
      refine AWP.skip ?_
      refine AWP.seq ?_
      refine AWP.block ?_
      refine AWP.seq ?_
      refine AWP.region (.cons (.move (lt1 rfl) (.tmp rfl))<| .cons (.assign (lt1 rfl) (.tmp rfl))<| ARun.nil _ _ _) ?_
      refine AWP.vc (s' := ⟨[(0,.rd β1 a0.length (a0.flatMap encR56)),(1,.clo (.func 55) [] []),(7,.sc (.int .i64 (a0.length : Int))),(8,.sc (.int .i64 x_5)),(5,.sc (.int .i64 x_5))],[]⟩) (VC.sub (.c rfl<| .c rfl<| .c rfl<| .c rfl<| .c rfl<| .n _) (.n _)) ?_
      refine AWP.seq ?_
      obtain ⟨y_7,hy_7,h⟩ := bindS h
      obtain ⟨y_8,hy_8,h⟩ := bindS h
      refine AWP.region (.cons (.move (lt1 rfl) (.tmp rfl))<| .cons (.move (lt1 rfl) (.tmp rfl))<| .cons (.move (lt1 rfl) (.tmp rfl))<| .cons (.indexRd (enc := encR56) (lt1 rfl) (.tmp rfl) (.tmp rfl) Try.underlying53 sz57 encR56_len rfl hy_7)<| .cons (.loadRA (out := [.rd β1 y_7.Pattern.length (y_7.Pattern.flatMap (encI .i64)),.sc (.int .i64 y_7.Count)]) (lt1 rfl) (.tmp rfl) agg57 (Nat.le_of_eq (Eq.symm (encR56_len _))) rfl)<| .cons (.keep (bw := false) (AStep.callV (us' := []) (avs := [.agg [.rd β1 ((R56.mk y_7.Pattern y_7.Count).Pattern).length (((R56.mk y_7.Pattern y_7.Count).Pattern).flatMap (encI .i64)),.sc (.int .i64 ((R56.mk y_7.Pattern y_7.Count).Count))]]) (cs' := []) (σ := sgT []) (bw := false) (lt1 rfl) (.tmp rfl) (c55 (β1 := β1) n (R56.mk y_7.Pattern y_7.Count) hy_8) (.nil) (.cons (.tmp rfl) (.ren rfl) (.nil)) (.nil) (CallOk.mk' (.n) rfl) (fun _ h => by cases h)) (CallOk.mk' (.n) rfl) rfl rfl)<| ARun.nil _ _ _) ?_
      refine AWP.vc (s' := ⟨[(0,.rd β1 a0.length (a0.flatMap encR56)),(1,.clo (.func 55) [] []),(7,.sc (.int .i64 (a0.length : Int))),(8,.sc (.int .i64 x_5)),(5,.sc (.int .i64 x_5)),(16,.sc (.bool y_8))],[]⟩) (VC.sub (.c rfl<| .c rfl<| .c rfl<| .c rfl<| .c rfl<| .c rfl<| .n _) (.n _)) ?_
      refine AWP.cond (.tmp rfl) (fun hc => ?_) (fun hc => ?_)
      · have h := iteT hc h
        refine AWP.seq ?_
        refine AWP.region (.cons (.move (lt1 rfl) (.tmp rfl))<| .cons (.assign (lt1 rfl) (.tmp rfl))<| ARun.nil _ _ _) ?_
        refine AWP.ret ?_
        obtain rfl := Option.some.inj h
        refine retJ (Res.vc (s' := ⟨[(4,.sc (.int .i64 x_5))],[]⟩) (VC.sub (.c rfl<| .n _) (.n _)) ?_)
        refine Res.drop (H := []) rfl ?_
        exact Res.of rfl (.cons (.tmp rfl) (.nil)) rfl rfl
      · have h := iteF hc h
        refine AWP.skip ?_
        obtain ⟨t8_9,ht8_9,h⟩ := letS h
        refine AWP.region (.cons (.add (lt1 rfl) (.tmp rfl) (.const _ _ _))<| .cons (.move (lt1 rfl) (.tmp rfl))<| ARun.nil _ _ _) ?_
        exact endJ t8_9 h (by subst ht8_9; exact VC.sub (.c rfl<| .c rfl<| .c rfl<| .c rfl<| .n _) (.n _))
    · have h := iteF hc h
      refine AWP.exit ?_
      exact endJ () h (VC.sub (.n _) (.n _))
theorem c54o (n : Nat) (a0_b : (List R56)) {r : (List R56)} (h : m54o n a0_b = some r) : Spec Try.prog 54 [1] [.own 1 2 0 a0_b.length,.clo (.func 55) [] []] [(1,⟨57,true,a0_b.flatMap encR56⟩)] (.own 1 2 0 r.length) [(1,⟨57,true,r.flatMap encR56⟩)] := by
  refine Spec.of (fn := Try.f54) Try.func54 Try.ntmps54 rfl rfl (le1 rfl) (fun w0 Zs Zb T0 ι0 => ?_)
  unfold m54o at h
  refine AWP.seq ?_
  refine AWP.region (.cons (.assign (lt1 rfl) (.const _ _ _))<| ARun.nil _ _ _) ?_
  refine AWP.vc (s' := ⟨[(0,.own 1 2 0 a0_b.length),(1,.clo (.func 55) [] [])],[(1,⟨57,true,a0_b.flatMap encR56⟩)]⟩) (VC.sub (.c rfl<| .c rfl<| .n _) (.c rfl<| .n _)) ?_
  refine AWP.seq ?_
  obtain ⟨y_1,hy_1,h⟩ := bindS h
  refine AWP.region (.cons (.move (lt1 rfl) (.tmp rfl))<| .cons (.move (lt1 rfl) (.tmp rfl))<| .cons (.call0 (bw := true) (lt1 rfl) (c50x1 (β1 := true) n a0_b hy_1) (.cons (.tmp rfl) (.lendRow rfl rfl encR56_len rfl) (.cons (.tmp rfl) (.ren rfl) (.nil))) rfl)<| .cons (.assign (lt1 rfl) (.tmp rfl))<| ARun.nil _ _ _) ?_
  refine AWP.vc (s' := ⟨[(0,.own 1 2 0 a0_b.length),(1,.clo (.func 55) [] []),(5,.sc (.int .i64 y_1))],[(1,⟨57,true,a0_b.flatMap encR56⟩)]⟩) (VC.sub (.c rfl<| .c rfl<| .c rfl<| .n _) (.c rfl<| .n _)) ?_
  refine AWP.seq ?_
  refine AWP.seq ?_
  refine AWP.region (.cons (.move (lt1 rfl) (.tmp rfl))<| .cons (.eql (lt1 rfl) (.tmp rfl) (.const _ _ _))<| ARun.nil _ _ _) ?_
  refine AWP.vc (s' := ⟨[(0,.own 1 2 0 a0_b.length),(1,.clo (.func 55) [] []),(5,.sc (.int .i64 y_1)),(12,.sc (.bool (decide (y_1 = (-1 : Int)))))],[(1,⟨57,true,a0_b.flatMap encR56⟩)]⟩) (VC.sub (.c rfl<| .c rfl<| .c rfl<| .c rfl<| .n _) (.c rfl<| .n _)) ?_
  refine AWP.cond (.tmp rfl) (fun hc => ?_) (fun hc => ?_)
  · have h := iteT hc h
    refine AWP.seq ?_
    refine AWP.region (.cons (.move (lt1 rfl) (.tmp rfl))<| .cons (.assign (lt1 rfl) (.tmp rfl))<| ARun.nil _ _ _) ?_
    refine AWP.ret ?_
    obtain rfl := Option.some.inj h
    refine retJ (Res.vc (s' := ⟨[(4,.own 1 2 0 a0_b.length)],[(1,⟨57,true,a0_b.flatMap encR56⟩)]⟩) (VC.sub (.c rfl<| .n _) (.c rfl<| .n _)) ?_)
    refine Res.sub (H := [(1,⟨57,true,a0_b.flatMap encR56⟩)]) (.c rfl<| .n _) ?_
    exact Res.of rfl (.cons (.tmp rfl) (.nil)) rfl rfl
  · have h := iteF hc h
    refine AWP.skip ?_
    refine AWP.seq ?_
    refine AWP.seq ?_
    obtain ⟨t6_2,ht6_2,h⟩ := letS h
    refine AWP.region (.cons (.move (lt1 rfl) (.tmp rfl))<| .cons (.add (lt1 rfl) (.tmp rfl) (.const _ _ _))<| .cons (.assign (lt1 rfl) (.tmp rfl))<| ARun.nil _ _ _) ?_
    refine AWP.vc (s' := ⟨[(0,.own 1 2 0 a0_b.length),(1,.clo (.func 55) [] []),(5,.sc (.int .i64 y_1)),(6,.sc (.int .i64 t6_2))],[(1,⟨57,true,a0_b.flatMap encR56⟩)]⟩) (by subst ht6_2; exact VC.sub (.c rfl<| .c rfl<| .c rfl<| .c rfl<| .n _) (.c rfl<| .n _)) ?_
    refine AWP.joinB' (S := fun p_31 : Int × (List R56) => ⟨[(0,.own 1 2 0 p_31.2.length),(5,.sc (.int .i64 p_31.1))],[(1,⟨57,true,p_31.2.flatMap encR56⟩)]⟩) h (fun p_31 h => ?_) (fun k_32 h => ?_)
    · refine AWP.seq ?_
      obtain ⟨l1_33,hl1_33,h⟩ := bindS h
      refine AWP.region (.cons (.move (lt1 rfl) (.tmp rfl))<| .cons (.move (lt1 rfl) (.tmp rfl))<| .cons (.slPart (lt1 rfl) (.tmp rfl) Try.underlying53 sz57 rfl (.some (.tmp rfl)) hl1_33)<| .cons (.clearTail (.tmp rfl) Try.underlying53 zero57 (by decide) rfl rfl (takeF encR56_len hl1_33))<| ARun.nil _ _ _) ?_
      refine AWP.vc (s' := ⟨[(0,.own 1 2 0 p_31.2.length),(5,.sc (.int .i64 p_31.1))],[(1,⟨57,true,l1_33.flatMap encR56⟩)]⟩) (VC.sub (.c rfl<| .c rfl<| .n _) (.c rfl<| .n _)) ?_
      refine AWP.seq ?_
      refine AWP.region (.cons (.move (lt1 rfl) (.tmp rfl))<| .cons (.move (lt1 rfl) (.tmp rfl))<| .cons (.slHead (lt1 rfl) (.tmp rfl) Try.underlying53 sz57 rfl (.some (.tmp rfl)) hl1_33)<| .cons (.assign (lt1 rfl) (.tmp rfl))<| ARun.nil _ _ _) ?_
      refine AWP.ret ?_
      obtain rfl := Option.some.inj h
      refine retJ (Res.vc (s' := ⟨[(4,.own 1 2 0 l1_33.length)],[(1,⟨57,true,l1_33.flatMap encR56⟩)]⟩) (VC.sub (.c rfl<| .n _) (.c rfl<| .n _)) ?_)
      refine Res.sub (H := [(1,⟨57,true,l1_33.flatMap encR56⟩)]) (.c rfl<| .n _) ?_
      exact Res.of rfl (.cons (.tmp rfl) (.nil)) rfl rfl
    · refine AWP.vc (s' := ⟨[(0,.own 1 2 0 a0_b.length),(1,.clo (.func 55) [] []),(5,.sc (.int .i64 y_1)),(6,.sc (.int .i64 t6_2))],[(1,⟨57,true,a0_b.flatMap encR56⟩)]⟩) (VC.sub (.c rfl<| .c rfl<| .c rfl<| .c rfl<| .n _) (.c rfl<| .n _)) ?_
      refine AWP.loopM (S := fun x_21 : Int × Int × (List R56) => ⟨[(0,.own 1 2 0 x_21.2.2.length),(1,.clo (.func 55) [] []),(5,.sc (.int .i64 x_21.1)),(6,.sc (.int .i64 x_21.2.1))],[(1,⟨57,true,x_21.2.2.flatMap encR56⟩)]⟩) (x := (y_1,t6_2,a0_b)) (fun nx_22 x_21 h => ?_) h
      unfold m54o_L1 at h
      refine AWP.seq ?_
      refine AWP.seq ?_
      refine AWP.region (.cons (.move (lt1 rfl) (.tmp rfl))<| .cons (.move (lt1 rfl) (.tmp rfl))<| .cons (.lenOwn (lt1 rfl) (.tmp rfl) Try.underlying53)<| .cons (.lss (lt1 rfl) (.tmp rfl) (.tmp rfl))<| ARun.nil _ _ _) ?_
      refine AWP.vc (s' := ⟨[(0,.own 1 2 0 x_21.2.2.length),(1,.clo (.func 55) [] []),(5,.sc (.int .i64 x_21.1)),(6,.sc (.int .i64 x_21.2.1)),(19,.sc (.bool (decide (x_21.2.1 < (x_21.2.2.length : Int)))))],[(1,⟨57,true,x_21.2.2.flatMap encR56⟩)]⟩) (VC.sub (.c rfl<| .c rfl<| .c rfl<| .c rfl<| .c rfl<| .n _) (.c rfl<| .n _)) ?_
      refine AWP.cond (.tmp rfl) (fun hc => ?_) (fun hc => ?_)
      · have h := iteT hc h
        refine AWP.skip ?_
        refine AWP.seq ?_
        refine AWP.block ?_
        refine AWP.seq ?_
        obtain ⟨y_23,hy_23,h⟩ := bindS h
        refine AWP.region (.cons (.move (lt1 rfl) (.tmp rfl))<| .cons (.move (lt1 rfl) (.tmp rfl))<| .cons (.idxOwn (lt1 rfl) (.tmp rfl) (.tmp rfl) Try.underlying53 sz57 rfl hy_23)<| .cons (.loadPA (lt1 rfl) (.tmp rfl) agg57 rfl (cells_at encR56_len hy_23) rfl rfl)<| .cons (.alloc (t := 2) (k := ⟨57,false,[.sc (.slice none 0 0),.sc (.int .i64 (0 : Int))]⟩) (lt1 rfl) (nm rfl) zero57 rfl rfl)<| .cons (.storePA (.tmp rfl) (.tmp rfl) sz57 rfl rfl (le1 rfl) (one_lit rfl) (by intro h; cases h) rfl)<| ARun.nil _ _ _) ?_
        refine AWP.vc (s' := ⟨[(0,.own 1 2 0 x_21.2.2.length),(1,.clo (.func 55) [] []),(5,.sc (.int .i64 x_21.1)),(6,.sc (.int .i64 x_21.2.1)),(7,.ptr 2 0)],[(2,⟨57,false,[.rd false y_23.Pattern.length (y_23.Pattern.flatMap (encI .i64)),.sc (.int .i64 y_23.Count)]⟩),(1,⟨57,true,x_21.2.2.flatMap encR56⟩)]⟩) (VC.sub (.c rfl<| .c rfl<| .c rfl<| .c rfl<| .c rfl<| .n _) (.c rfl<| .c rfl<| .n _)) ?_
        refine AWP.seq ?_
        obtain ⟨y_24,hy_24,h⟩ := bindS h
        refine AWP.region (.cons (.move (lt1 rfl) (.tmp rfl))<| .cons (.loadPA (lt1 rfl) (.tmp rfl) agg57 rfl rfl rfl rfl)<| .cons (.keep (bw := false) (AStep.callV (us' := []) (avs := [.agg [.rd false ((R56.mk y_23.Pattern y_23.Count).Pattern).length (((R56.mk y_23.Pattern y_23.Count).Pattern).flatMap (encI .i64)),.sc (.int .i64 ((R56.mk y_23.Pattern y_23.Count).Count))]]) (cs' := []) (σ := sgT []) (bw := false) (lt1 rfl) (.tmp rfl) (c55 (β1 := false) n (R56.mk y_23.Pattern y_23.Count) hy_24) (.nil) (.cons (.tmp rfl) (.ren rfl) (.nil)) (.nil) (CallOk.mk' (.n) rfl) (fun _ h => by cases h)) (CallOk.mk' (.n) rfl) rfl rfl)<| .cons (.not (lt1 rfl) (.tmp rfl))<| ARun.nil _ _ _) ?_
        refine AWP.vc (s' := ⟨[(0,.own 1 2 0 x_21.2.2.length),(1,.clo (.func 55) [] []),(5,.sc (.int .i64 x_21.1)),(6,.sc (.int .i64 x_21.2.1)),(7,.ptr 2 0),(29,.sc (.bool (!y_24)))],[(2,⟨57,false,[.rd false y_23.Pattern.length (y_23.Pattern.flatMap (encI .i64)),.sc (.int .i64 y_23.Count)]⟩),(1,⟨57,true,x_21.2.2.flatMap encR56⟩)]⟩) (VC.sub (.c rfl<| .c rfl<| .c rfl<| .c rfl<| .c rfl<| .c rfl<| .n _) (.c rfl<| .c rfl<| .n _)) ?_
        refine AWP.join' (S := fun p_28 : Int × (List R56) => ⟨[(0,.own 1 2 0 p_28.2.length),(1,.clo (.func 55) [] []),(5,.sc (.int .i64 p_28.1)),(6,.sc (.int .i64 x_21.2.1))],[(1,⟨57,true,p_28.2.flatMap encR56⟩)]⟩) h (fun p_28 h => ?_) (fun k_29 h => ?_)
        · obtain ⟨t6_30,ht6_30,h⟩ := letS h
          refine AWP.region (.cons (.move (lt1 rfl) (.tmp rfl))<| .cons (.add (lt1 rfl) (.tmp rfl) (.const _ _ _))<| .cons (.assign (lt1 rfl) (.tmp rfl))<| ARun.nil _ _ _) ?_
          exact endJ (p_28.1,t6_30,p_28.2) h (by subst ht6_30; exact VC.sub (.c rfl<| .c rfl<| .c rfl<| .c rfl<| .n _) (.c rfl<| .n _))
        · refine AWP.cond (.tmp rfl) (fun hc => ?_) (fun hc => ?_)
          · have h := iteT hc h
            refine AWP.seq ?_
            obtain ⟨y_25,hy_25,h⟩ := bindS h
            obtain ⟨l1_26,hl1_26,h⟩ := bindS h
            refine AWP.region (.cons (.move (lt1 rfl) (.tmp rfl))<| .cons (.move (lt1 rfl) (.tmp rfl))<| .cons (.loadPA (lt1 rfl) (.tmp rfl) agg57 rfl rfl rfl rfl)<| .cons (.idxOwn (lt1 rfl) (.tmp rfl) (.tmp rfl) Try.underlying53 sz57 rfl hy_25)<| .cons (.storePA (.tmp rfl) (.tmp rfl) sz57 rfl rfl (le_at encR56_len hy_25) (one_lit rfl) (fun _ => still_lit rfl) (splL_at encR56_len hy_25 hl1_26))<| ARun.nil _ _ _) ?_
            refine AWP.vc (s' := ⟨[(0,.own 1 2 0 l1_26.length),(1,.clo (.func 55) [] []),(5,.sc (.int .i64 x_21.1)),(6,.sc (.int .i64 x_21.2.1))],[(1,⟨57,true,l1_26.flatMap encR56⟩)]⟩) (VC.sub (.c (lenC (Eq.symm (setLen hl1_26)) rfl)<| .c rfl<| .c rfl<| .c rfl<| .n _) (.c rfl<| .n _)) ?_
            obtain ⟨t5_27,ht5_27,h⟩ := letS h
            refine AWP.region (.cons (.move (lt1 rfl) (.tmp rfl))<| .cons (.add (lt1 rfl) (.tmp rfl) (.const _ _ _))<| .cons (.assign (lt1 rfl) (.tmp rfl))<| ARun.nil _ _ _) ?_
            exact endJ (t5_27,l1_26) h (by subst ht5_27; exact VC.sub (.c rfl<| .c rfl<| .c rfl<| .c rfl<| .n _) (.c rfl<| .n _))
          · have h := iteF hc h
            refine AWP.skip ?_
            exact endJ (x_21.1,x_21.2.2) h (VC.sub (.c rfl<| .c rfl<| .c rfl<| .c rfl<| .n _) (.c rfl<| .n _))
      · have h := iteF hc h
        refine AWP.exit ?_
        exact endJ (x_21.1,x_21.2.2) h (VC.sub (.c rfl<| .c rfl<| .n _) (.c rfl<| .n _))
theorem c77 (n : Nat) (a0 : Int) {r : Bool} (h : m77 n a0 = some r) : Spec Try.prog 77 [] [.sc (.int .i64 a0)] [] (.sc (.bool r)) [] := by
  refine Spec.of (fn := Try.f77) Try.func77 Try.ntmps77 rfl rfl (le1 rfl) (fun w0 Zs Zb T0 ι0 => ?_)
  unfold m77 at h
  refine AWP.seq ?_
  refine AWP.region (.cons (.assign (lt1 rfl) (.const _ _ _))<| ARun.nil _ _ _) ?_
  refine AWP.vc (s' := ⟨[(0,.sc (.int .i64 a0))],[]⟩) (VC.sub (.c rfl<| .n _) (.n _)) ?_
  refine AWP.seq ?_
  refine AWP.region (.cons (.move (lt1 rfl) (.tmp rfl))<| .cons (.move (lt1 rfl) (.tmp rfl))<| .cons (.neq (lt1 rfl) (.tmp rfl) (.tmp rfl))<| .cons (.assign (lt1 rfl) (.tmp rfl))<| ARun.nil _ _ _) ?_
  refine AWP.ret ?_
  obtain rfl := Option.some.inj h
  refine retJ (Res.vc (s' := ⟨[(2,.sc (.bool (!decide (a0 = a0))))],[]⟩) (VC.sub (.c rfl<| .n _) (.n _)) ?_)
  refine Res.drop (H := []) rfl ?_
  exact Res.of rfl (.cons (.tmp rfl) (.nil)) rfl rfl
theorem c66 (n : Nat) (a0 : Int) (a1 : Int) {r : Int} (h : m66 n a0 a1 = some r) : Spec Try.prog 66 [] [.sc (.int .i64 a0),.sc (.int .i64 a1)] [] (.sc (.int .i64 r)) [] := by
  refine Spec.of (fn := Try.f66) Try.func66 Try.ntmps66 rfl rfl (le1 rfl) (fun w0 Zs Zb T0 ι0 => ?_)
  unfold m66 at h
  refine AWP.seq ?_
  refine AWP.region (.cons (.assign (lt1 rfl) (.const _ _ _))<| ARun.nil _ _ _) ?_
  refine AWP.vc (s' := ⟨[(0,.sc (.int .i64 a0)),(1,.sc (.int .i64 a1))],[]⟩) (VC.sub (.c rfl<| .c rfl<| .n _) (.n _)) ?_
  refine AWP.seq ?_
  obtain ⟨y_1,hy_1,h⟩ := bindS h
  refine AWP.region (.cons (.move (lt1 rfl) (.tmp rfl))<| .cons (.call0 (bw := false) (lt1 rfl) (c77 n a0 hy_1) (.cons (.tmp rfl) (.ren rfl) (.nil)) rfl)<| .cons (.assign (lt1 rfl) (.tmp rfl))<| ARun.nil _ _ _) ?_
  refine AWP.vc (s' := ⟨[(0,.sc (.int .i64 a0)),(1,.sc (.int .i64 a1)),(5,.sc (.bool y_1))],[]⟩) (VC.sub (.c rfl<| .c rfl<| .c rfl<| .n _) (.n _)) ?_
  refine AWP.seq ?_
  obtain ⟨y_2,hy_2,h⟩ := bindS h
  refine AWP.region (.cons (.move (lt1 rfl) (.tmp rfl))<| .cons (.call0 (bw := false) (lt1 rfl) (c77 n a1 hy_2) (.cons (.tmp rfl) (.ren rfl) (.nil)) rfl)<| .cons (.assign (lt1 rfl) (.tmp rfl))<| ARun.nil _ _ _) ?_
  refine AWP.vc (s' := ⟨[(0,.sc (.int .i64 a0)),(1,.sc (.int .i64 a1)),(5,.sc (.bool y_1)),(6,.sc (.bool y_2))],[]⟩) (VC.sub (.c rfl<| .c rfl<| .c rfl<| .c rfl<| .n _) (.n _)) ?_
  refine AWP.seq ?_
  refine AWP.seq ?_
  refine AWP.region (.cons (.move (lt1 rfl) (.tmp rfl))<| ARun.nil _ _ _) ?_
  refine AWP.vc (s' := ⟨[(0,.sc (.int .i64 a0)),(1,.sc (.int .i64 a1)),(6,.sc (.bool y_2)),(11,.sc (.bool y_1))],[]⟩) (VC.sub (.c rfl<| .c rfl<| .c rfl<| .c rfl<| .n _) (.n _)) ?_
  refine AWP.cond (.tmp rfl) (fun hc => ?_) (fun hc => ?_)
  · have h := iteT hc h
    refine AWP.seq ?_
    refine AWP.seq ?_
    refine AWP.region (.cons (.move (lt1 rfl) (.tmp rfl))<| ARun.nil _ _ _) ?_
    refine AWP.vc (s' := ⟨[(12,.sc (.bool y_2))],[]⟩) (VC.sub (.c rfl<| .n _) (.n _)) ?_
    refine AWP.cond (.tmp rfl) (fun hc => ?_) (fun hc => ?_)
    · have h := iteT hc h
      refine AWP.seq ?_
      refine AWP.region (.cons (.assign (lt1 rfl) (.const _ _ _))<| ARun.nil _ _ _) ?_
      refine AWP.ret ?_
      obtain rfl := Option.some.inj h
      refine retJ (Res.vc (s' := ⟨[(4,.sc (.int .i64 (0 : Int)))],[]⟩) (VC.sub (.c rfl<| .n _) (.n _)) ?_)
      refine Res.drop (H := []) rfl ?_
      exact Res.of rfl (.cons (.tmp rfl) (.nil)) rfl rfl
    · have h := iteF hc h
      refine AWP.skip ?_
      refine AWP.seq ?_
      refine AWP.region (.cons (.assign (lt1 rfl) (.const _ _ _))<| ARun.nil _ _ _) ?_
      refine AWP.ret ?_
      obtain rfl := Option.some.inj h
      refine retJ (Res.vc (s' := ⟨[(4,.sc (.int .i64 (-1 : Int)))],[]⟩) (VC.sub (.c rfl<| .n _) (.n _)) ?_)
      refine Res.drop (H := []) rfl ?_
      exact Res.of rfl (.cons (.tmp rfl) (.nil)) rfl rfl
  · have h := iteF hc h
    refine AWP.skip ?_
    refine AWP.seq ?_
    refine AWP.seq ?_
    refine AWP.region (.cons (.move (lt1 rfl) (.tmp rfl))<| ARun.nil _ _ _) ?_
    refine AWP.vc (s' := ⟨[(0,.sc (.int .i64 a0)),(1,.sc (.int .i64 a1)),(13,.sc (.bool y_2))],[]⟩) (VC.sub (.c rfl<| .c rfl<| .c rfl<| .n _) (.n _)) ?_
    refine AWP.cond (.tmp rfl) (fun hc => ?_) (fun hc => ?_)
    · have h := iteT hc h
      refine AWP.seq ?_
      refine AWP.region (.cons (.assign (lt1 rfl) (.const _ _ _))<| ARun.nil _ _ _) ?_
      refine AWP.ret ?_
      obtain rfl := Option.some.inj h
      refine retJ (Res.vc (s' := ⟨[(4,.sc (.int .i64 (1 : Int)))],[]⟩) (VC.sub (.c rfl<| .n _) (.n _)) ?_)
      refine Res.drop (H := []) rfl ?_
      exact Res.of rfl (.cons (.tmp rfl) (.nil)) rfl rfl
    · have h := iteF hc h
      refine AWP.skip ?_
      refine AWP.seq ?_
      refine AWP.seq ?_
      refine AWP.region (.cons (.move (lt1 rfl) (.tmp rfl))<| .cons (.move (lt1 rfl) (.tmp rfl))<| .cons (.lss (lt1 rfl) (.tmp rfl) (.tmp rfl))<| ARun.nil _ _ _) ?_
      refine AWP.vc (s' := ⟨[(0,.sc (.int .i64 a0)),(1,.sc (.int .i64 a1)),(16,.sc (.bool (decide (a0 < a1))))],[]⟩) (VC.sub (.c rfl<| .c rfl<| .c rfl<| .n _) (.n _)) ?_
      refine AWP.cond (.tmp rfl) (fun hc => ?_) (fun hc => ?_)
      · have h := iteT hc h
        refine AWP.seq ?_
        refine AWP.region (.cons (.assign (lt1 rfl) (.const _ _ _))<| ARun.nil _ _ _) ?_
        refine AWP.ret ?_
        obtain rfl := Option.some.inj h
        refine retJ (Res.vc (s' := ⟨[(4,.sc (.int .i64 (-1 : Int)))],[]⟩) (VC.sub (.c rfl<| .n _) (.n _)) ?_)
        refine Res.drop (H := []) rfl ?_
        exact Res.of rfl (.cons (.tmp rfl) (.nil)) rfl rfl
      · have h := iteF hc h
        refine AWP.skip ?_
        refine AWP.seq ?_
        refine AWP.seq ?_
        refine AWP.region (.cons (.move (lt1 rfl) (.tmp rfl))<| .cons (.move (lt1 rfl) (.tmp rfl))<| .cons (.gtr (lt1 rfl) (.tmp rfl) (.tmp rfl))<| ARun.nil _ _ _) ?_
        refine AWP.vc (s' := ⟨[(19,.sc (.bool (decide (a1 < a0))))],[]⟩) (VC.sub (.c rfl<| .n _) (.n _)) ?_
        refine AWP.cond (.tmp rfl) (fun hc => ?_) (fun hc => ?_)
        · have h := iteT hc h
          refine AWP.seq ?_
          refine AWP.region (.cons (.assign (lt1 rfl) (.const _ _ _))<| ARun.nil _ _ _) ?_
          refine AWP.ret ?_
          obtain rfl := Option.some.inj h
          refine retJ (Res.vc (s' := ⟨[(4,.sc (.int .i64 (1 : Int)))],[]⟩) (VC.sub (.c rfl<| .n _) (.n _)) ?_)
          refine Res.drop (H := []) rfl ?_
          exact Res.of rfl (.cons (.tmp rfl) (.nil)) rfl rfl
        · have h := iteF hc h
          refine AWP.skip ?_
          refine AWP.seq ?_
          refine AWP.region (.cons (.assign (lt1 rfl) (.const _ _ _))<| ARun.nil _ _ _) ?_
          refine AWP.ret ?_
          obtain rfl := Option.some.inj h
          refine retJ (Res.vc (s' := ⟨[(4,.sc (.int .i64 (0 : Int)))],[]⟩) (VC.sub (.c rfl<| .n _) (.n _)) ?_)
          refine Res.drop (H := []) rfl ?_
          exact Res.of rfl (.cons (.tmp rfl) (.nil)) rfl rfl
theorem c58 {β1 : Bool} {β2 : Bool} (n : Nat) (a0 : (List Int)) (a1 : (List Int)) {r : Int} (h : m58 n a0 a1 = some r) : Spec Try.prog 58 [] [.rd β1 a0.length (a0.flatMap (encI .i64)),.rd β2 a1.length (a1.flatMap (encI .i64))] [] (.sc (.int .i64 r)) [] := by
  refine Spec.of (fn := Try.f58) Try.func58 Try.ntmps58 rfl rfl (le1 rfl) (fun w0 Zs Zb T0 ι0 => ?_)
  unfold m58 at h
  refine AWP.seq ?_
  refine AWP.region (.cons (.assign (lt1 rfl) (.const _ _ _))<| ARun.nil _ _ _) ?_
  refine AWP.vc (s' := ⟨[(0,.rd β1 a0.length (a0.flatMap (encI .i64))),(1,.rd β2 a1.length (a1.flatMap (encI .i64)))],[]⟩) (VC.sub (.c rfl<| .c rfl<| .n _) (.n _)) ?_
  refine AWP.seq ?_
  refine AWP.seq ?_
  refine AWP.region (.cons (.move (lt1 rfl) (.tmp rfl))<| .cons (.lenRd (lt1 rfl) (.tmp rfl) Try.underlying22)<| .cons (.move (lt1 rfl) (.const _ _ _))<| ARun.nil _ _ _) ?_
  refine AWP.vc (s' := ⟨[(0,.rd β1 a0.length (a0.flatMap (encI .i64))),(1,.rd β2 a1.length (a1.flatMap (encI .i64))),(9,.rd β1 a0.length (a0.flatMap (encI .i64))),(10,.sc (.int .i64 (a0.length : Int))),(11,.sc (.int .i64 (0 : Int)))],[]⟩) (VC.sub (.c rfl<| .c rfl<| .c rfl<| .c rfl<| .c rfl<| .n _) (.n _)) ?_
  refine AWP.joinB' (S := fun p_12 : Unit => ⟨[(0,.rd β1 a0.length (a0.flatMap (encI .i64))),(1,.rd β2 a1.length (a1.flatMap (encI .i64)))],[]⟩) h (fun p_12 h => ?_) (fun k_13 h => ?_)
  · refine AWP.seq ?_
    refine AWP.seq ?_
    refine AWP.region (.cons (.move (lt1 rfl) (.tmp rfl))<| .cons (.lenRd (lt1 rfl) (.tmp rfl) Try.underlying22)<| .cons (.move (lt1 rfl) (.tmp rfl))<| .cons (.lenRd (lt1 rfl) (.tmp rfl) Try.underlying22)<| .cons (.lss (lt1 rfl) (.tmp rfl) (.tmp rfl))<| ARun.nil _ _ _) ?_
    refine AWP.vc (s' := ⟨[(35,.sc (.bool (decide ((a0.length : Int) < (a1.length : Int)))))],[]⟩) (VC.sub (.c rfl<| .n _) (.n _)) ?_
    refine AWP.cond (.tmp rfl) (fun hc => ?_) (fun hc => ?_)
    · have h := iteT hc h
      refine AWP.seq ?_
      refine AWP.region (.cons (.assign (lt1 rfl) (.const _ _ _))<| ARun.nil _ _ _) ?_
      refine AWP.ret ?_
      obtain rfl := Option.some.inj h
      refine retJ (Res.vc (s' := ⟨[(4,.sc (.int .i64 (-1 : Int)))],[]⟩) (VC.sub (.c rfl<| .n _) (.n _)) ?_)
      refine Res.drop (H := []) rfl ?_
      exact Res.of rfl (.cons (.tmp rfl) (.nil)) rfl rfl
    · have h := iteF hc h
      refine AWP.skip ?_
      refine AWP.seq ?_
      refine AWP.region (.cons (.assign (lt1 rfl) (.const _ _ _))<| ARun.nil _ _ _) ?_
      refine AWP.ret ?_
      obtain rfl := Option.some.inj h
      refine retJ (Res.vc (s' := ⟨[(4,.sc (.int .i64 (0 : Int)))],[]⟩) (VC.sub (.c rfl<| .n _) (.n _)) ?_)
      refine Res.drop (H := []) rfl ?_
      exact Res.of rfl (.cons (.tmp rfl) (.nil)) rfl rfl
  · refine AWP.vc (s' := ⟨[(0,.rd β1 a0.length (a0.flatMap (encI .i64))),(1,.rd β2 a1.length (a1.flatMap (encI .i64))),(9,.rd β1 a0.length (a0.flatMap (encI .i64))),(10,.sc (.int .i64 (a0.length : Int))),(11,.sc (.int .i64 (0 : Int)))],[]⟩) (VC.sub (.c rfl<| .c rfl<| .c rfl<| .c rfl<| .c rfl<| .n _) (.n _)) ?_
    refine AWP.loopM (S := fun x_6 : Int => ⟨[(0,.rd β1 a0.length (a0.flatMap (encI .i64))),(1,.rd β2 a1.length (a1.flatMap (encI .i64))),(9,.rd β1 a0.length (a0.flatMap (encI .i64))),(10,.sc (.int .i64 (a0.length : Int))),(11,.sc (.int .i64 x_6))],[]⟩) (x := (0 : Int)) (fun nx_7 x_6 h => ?_) h
    unfold m58_L1 at h
    refine AWP.seq ?_
    refine AWP.region (.cons (.lss (lt1 rfl) (.tmp rfl) (.tmp rfl))<| ARun.nil _ _ _) ?_
    refine AWP.vc (s' := ⟨[(0,.rd β1 a0.length (a0.flatMap (encI .i64))),(1,.rd β2 a1.length (a1.flatMap (encI .i64))),(9,.rd β1 a0.length (a0.flatMap (encI .i64))),(10,.sc (.int .i64 (a0.length : Int))),(11,.sc (.int .i64 x_6)),(12,.sc (.bool (decide (x_6 < (a0.length : Int)))))],[]⟩) (VC.sub (.c rfl<| .c rfl<| .c rfl<| .c rfl<| .c rfl<| .c rfl<| .n _) (.n _)) ?_
    refine AWP.seq ?_
    refine AWP.cond (.tmp rfl) (fun hc => ?_) (fun hc => ?_)
    · have h := iteT hc h
      refine AWP.skip ?_
      refine AWP.seq ?_
      refine AWP.block ?_
      refine AWP.seq ?_
      obtain ⟨y_8,hy_8,h⟩ := bindS h
      refine AWP.region (.cons (.move (lt1 rfl) (.tmp rfl))<| .cons (.indexRd (enc := (encI .i64)) (lt1 rfl) (.tmp rfl) (.tmp rfl) Try.underlying22 sz3 (encI_len .i64) rfl hy_8)<| .cons (.loadR (v := .sc (.int .i64 y_8)) (lt1 rfl) (.tmp rfl) one3 rfl)<| .cons (.assign (lt1 rfl) (.tmp rfl))<| .cons (.assign (lt1 rfl) (.tmp rfl))<| ARun.nil _ _ _) ?_
      refine AWP.vc (s' := ⟨[(0,.rd β1 a0.length (a0.flatMap (encI .i64))),(1,.rd β2 a1.length (a1.flatMap (encI .i64))),(9,.rd β1 a0.length (a0.flatMap (encI .i64))),(10,.sc (.int .i64 (a0.length : Int))),(11,.sc (.int .i64 x_6)),(5,.sc (.int .i64 x_6)),(6,.sc (.int .i64 y_8))],[]⟩) (VC.sub (.c rfl<| .c rfl<| .c rfl<| .c rfl<| .c rfl<| .c rfl<| .c rfl<| .n _) (.n _)) ?_
      refine AWP.seq ?_
      refine AWP.seq ?_
      refine AWP.region (.cons (.move (lt1 rfl) (.tmp rfl))<| .cons (.move (lt1 rfl) (.tmp rfl))<| .cons (.lenRd (lt1 rfl) (.tmp rfl) Try.underlying22)<| .cons (.geq (lt1 rfl) (.tmp rfl) (.tmp rfl))<| ARun.nil _ _ _) ?_
      refine AWP.vc (s' := ⟨[(0,.rd β1 a0.length (a0.flatMap (encI .i64))),(1,.rd β2 a1.length (a1.flatMap (encI .i64))),(9,.rd β1 a0.length (a0.flatMap (encI .i64))),(10,.sc (.int .i64 (a0.length : Int))),(11,.sc (.int .i64 x_6)),(5,.sc (.int .i64 x_6)),(6,.sc (.int .i64 y_8)),(19,.sc (.bool (decide ((a1.length : Int) ≤ x_6))))],[]⟩) (VC.sub (.c rfl<| .c rfl<| .c rfl<| .c rfl<| .c rfl<| .c rfl<| .c rfl<| .c rfl<| .n _) (.n _)) ?_
      refine AWP.cond (.tmp rfl) (fun hc => ?_) (fun hc => ?_)
      · have h := iteT hc h
        refine AWP.seq ?_
        refine AWP.region (.cons (.assign (lt1 rfl) (.const _ _ _))<| ARun.nil _ _ _) ?_
        refine AWP.ret ?_
        obtain rfl := Option.some.inj h
        refine retJ (Res.vc (s' := ⟨[(4,.sc (.int .i64 (1 : Int)))],[]⟩) (VC.sub (.c rfl<| .n _) (.n _)) ?_)
        refine Res.drop (H := []) rfl ?_
        exact Res.of rfl (.cons (.tmp rfl) (.nil)) rfl rfl
      · have h := iteF hc h
        refine AWP.skip ?_
        refine AWP.seq ?_
        obtain ⟨y_9,hy_9,h⟩ := bindS h
        refine AWP.region (.cons (.move (lt1 rfl) (.tmp rfl))<| .cons (.move (lt1 rfl) (.tmp rfl))<| .cons (.indexRd (enc := (encI .i64)) (lt1 rfl) (.tmp rfl) (.tmp rfl) Try.underlying22 sz3 (encI_len .i64) rfl hy_9)<| .cons (.loadR (v := .sc (.int .i64 y_9)) (lt1 rfl) (.tmp rfl) one3 rfl)<| .cons (.assign (lt1 rfl) (.tmp rfl))<| ARun.nil _ _ _) ?_
        refine AWP.vc (s' := ⟨[(0,.rd β1 a0.length (a0.flatMap (encI .i64))),(1,.rd β2 a1.length (a1.flatMap (encI .i64))),(9,.rd β1 a0.length (a0.flatMap (encI .i64))),(10,.sc (.int .i64 (a0.length : Int))),(11,.sc (.int .i64 x_6)),(6,.sc (.int .i64 y_8)),(7,.sc (.int .i64 y_9))],[]⟩) (VC.sub (.c rfl<| .c rfl<| .c rfl<| .c rfl<| .c rfl<| .c rfl<| .c rfl<| .n _) (.n _)) ?_
        refine AWP.seq ?_
        obtain ⟨y_10,hy_10,h⟩ := bindS h
        refine AWP.region (.cons (.move (lt1 rfl) (.tmp rfl))<| .cons (.move (lt1 rfl) (.tmp rfl))<| .cons (.call0 (bw := false) (lt1 rfl) (c66 n y_8 y_9 hy_10) (.cons (.tmp rfl) (.ren rfl) (.cons (.tmp rfl) (.ren rfl) (.nil))) rfl)<| .cons (.assign (lt1 rfl) (.tmp rfl))<| ARun.nil _ _ _) ?_
        refine AWP.vc (s' := ⟨[(0,.rd β1 a0.length (a0.flatMap (encI .i64))),(1,.rd β2 a1.length (a1.flatMap (encI .i64))),(9,.rd β1 a0.length (a0.flatMap (encI .i64))),(10,.sc (.int .i64 (a0.length : Int))),(11,.sc (.int .i64 x_6)),(8,.sc (.int .i64 y_10))],[]⟩) (VC.sub (.c rfl<| .c rfl<| .c rfl<| .c rfl<| .c rfl<| .c rfl<| .n _) (.n _)) ?_
        refine AWP.seq ?_
        refine AWP.region (.cons (.move (lt1 rfl) (.tmp rfl))<| .cons (.neq (lt1 rfl) (.tmp rfl) (.const _ _ _))<| ARun.nil _ _ _) ?_
        refine AWP.vc (s' := ⟨[(0,.rd β1 a0.length (a0.flatMap (encI .i64))),(1,.rd β2 a1.length (a1.flatMap (encI .i64))),(9,.rd β1 a0.length (a0.flatMap (encI .i64))),(10,.sc (.int .i64 (a0.length : Int))),(11,.sc (.int .i64 x_6)),(8,.sc (.int .i64 y_10)),(28,.sc (.bool (!decide (y_10 = (0 : Int)))))],[]⟩) (VC.sub (.c rfl<| .c rfl<| .c rfl<| .c rfl<| .c rfl<| .c rfl<| .c rfl<| .n _) (.n _)) ?_
        refine AWP.cond (.tmp rfl) (fun hc => ?_) (fun hc => ?_)
        · have h := iteT hc h
          refine AWP.seq ?_
          refine AWP.region (.cons (.move (lt1 rfl) (.tmp rfl))<| .cons (.assign (lt1 rfl) (.tmp rfl))<| ARun.nil _ _ _) ?_
          refine AWP.ret ?_
          obtain rfl := Option.some.inj h
          refine retJ (Res.vc (s' := ⟨[(4,.sc (.int .i64 y_10))],[]⟩) (VC.sub (.c rfl<| .n _) (.n _)) ?_)
          refine Res.drop (H := []) rfl ?_
          exact Res.of rfl (.cons (.tmp rfl) (.nil)) rfl rfl
        · have h := iteF hc h
          refine AWP.skip ?_
          obtain ⟨t11_11,ht11_11,h⟩ := letS h
          refine AWP.region (.cons (.add (lt1 rfl) (.tmp rfl) (.const _ _ _))<| .cons (.move (lt1 rfl) (.tmp rfl))<| ARun.nil _ _ _) ?_
          exact endJ t11_11 h (by subst ht11_11; exact VC.sub (.c rfl<| .c rfl<| .c rfl<| .c rfl<| .c rfl<| .n _) (.n _))
    · have h := iteF hc h
      refine AWP.exit ?_
      exact endJ () h (VC.sub (.c rfl<| .c rfl<| .n _) (.n _))
theorem c57 {β1 : Bool} {β2 : Bool} (n : Nat) (a0 : R56) (a1 : R56) {r : Int} (h : m57 n a0 a1 = some r) : Spec Try.prog 57 [] [.agg [.rd β1 a0.Pattern.length (a0.Pattern.flatMap (encI .i64)),.sc (.int .i64 a0.Count)],.agg [.rd β2 a1.Pattern.length (a1.Pattern.flatMap (encI .i64)),.sc (.int .i64 a1.Count)]] [] (.sc (.int .i64 r)) [] := by
  refine Spec.of (fn := Try.f57) Try.func57 Try.ntmps57 rfl rfl (le1 rfl) (fun w0 Zs Zb T0 ι0 => ?_)
  unfold m57 at h
  refine AWP.seq ?_
  refine AWP.region (.cons (.box (t := 1) (n := 2) (lt1 rfl) (nm rfl) (.tmp rfl) (by first | exact ⟨rfl,rfl⟩ | rfl) rfl)<| .cons (.box (t := 2) (n := 2) (lt1 rfl) (nm rfl) (.tmp rfl) (by first | exact ⟨rfl,rfl⟩ | rfl) rfl)<| .cons (.assign (lt1 rfl) (.const _ _ _))<| ARun.nil _ _ _) ?_
  refine AWP.vc (s' := ⟨[(2,.ptr 1 0),(3,.ptr 2 0)],[(2,⟨57,false,[.rd β2 a1.Pattern.length (a1.Pattern.flatMap (encI .i64)),.sc (.int .i64 a1.Count)]⟩),(1,⟨57,false,[.rd β1 a0.Pattern.length (a0.Pattern.flatMap (encI .i64)),.sc (.int .i64 a0.Count)]⟩)]⟩) (VC.sub (.c rfl<| .c rfl<| .n _) (.c rfl<| .c rfl<| .n _)) ?_
  refine AWP.seq ?_
  obtain ⟨y_1,hy_1,h⟩ := bindS h
  refine AWP.region (.cons (.fieldP (lt1 rfl) (.tmp rfl) fld57_0)<| .cons (.loadP (lt1 rfl) (.tmp rfl) one22 rfl rfl rfl)<| .cons (.fieldP (lt1 rfl) (.tmp rfl) fld57_0)<| .cons (.loadP (lt1 rfl) (.tmp rfl) one22 rfl rfl rfl)<| .cons (.call0 (bw := false) (lt1 rfl) (c58 (β1 := β2) (β2 := β1) n a1.Pattern a0.Pattern hy_1) (.cons (.tmp rfl) (.ren rfl) (.cons (.tmp rfl) (.ren rfl) (.nil))) rfl)<| .cons (.assign (lt1 rfl) (.tmp rfl))<| ARun.nil _ _ _) ?_
  refine AWP.ret ?_
  obtain rfl := Option.some.inj h
  refine retJ (Res.vc (s' := ⟨[(4,.sc (.int .i64 y_1))],[]⟩) (VC.sub (.c rfl<| .n _) (.n _)) ?_)
  refine Res.drop (H := []) rfl ?_
  exact Res.of rfl (.cons (.tmp rfl) (.nil)) rfl rfl
theorem c75 (n : Nat) (a0_b : (List R56)) (a1 : Int) (a2 : Int) {r : (List R56)} (h : m75 n a0_b a1 a2 = some r) : Spec Try.prog 75 [1] [.own 1 2 0 a0_b.length,.sc (.int .i64 a1),.sc (.int .i64 a2),.clo (.func 57) [] []] [(1,⟨57,true,a0_b.flatMap encR56⟩)] (.tup []) [(1,⟨57,true,r.flatMap encR56⟩)] := by
  refine Spec.of (fn := Try.f75) Try.func75 Try.ntmps75 rfl rfl (le1 rfl) (fun w0 Zs Zb T0 ι0 => ?_)
  unfold m75 at h
  refine AWP.seq ?_
  obtain ⟨t8_1,ht8_1,h⟩ := letS h
  refine AWP.region (.cons (.move (lt1 rfl) (.tmp rfl))<| .cons (.add (lt1 rfl) (.tmp rfl) (.const _ _ _))<| .cons (.assign (lt1 rfl) (.tmp rfl))<| ARun.nil _ _ _) ?_
  refine AWP.vc (s' := ⟨[(0,.own 1 2 0 a0_b.length),(1,.sc (.int .i64 a1)),(2,.sc (.int .i64 a2)),(3,.clo (.func 57) [] []),(8,.sc (.int .i64 t8_1))],[(1,⟨57,true,a0_b.flatMap encR56⟩)]⟩) (by subst ht8_1; exact VC.sub (.c rfl<| .c rfl<| .c rfl<| .c rfl<| .c rfl<| .n _) (.c rfl<| .n _)) ?_
  refine AWP.joinB' (S := fun p_117 : (List R56) => ⟨[],[(1,⟨57,true,p_117.flatMap encR56⟩)]⟩) h (fun p_117 h => ?_) (fun k_118 h => ?_)
  · obtain rfl := Option.some.inj h
    refine norJ (Res.vc (s' := ⟨[],[(1,⟨57,true,p_117.flatMap encR56⟩)]⟩) (VC.sub (.n _) (.c rfl<| .n _)) ?_)
    refine Res.sub (H := [(1,⟨57,true,p_117.flatMap encR56⟩)]) (.c rfl<| .n _) ?_
    exact Res.of rfl (.nil) rfl rfl
  · refine AWP.vc (s' := ⟨[(0,.own 1 2 0 a0_b.length),(1,.sc (.int .i64 a1)),(2,.sc (.int .i64 a2)),(3,.clo (.func 57) [] []),(8,.sc (.int .i64 t8_1))],[(1,⟨57,true,a0_b.flatMap encR56⟩)]⟩) (VC.sub (.c rfl<| .c rfl<| .c rfl<| .c rfl<| .c rfl<| .n _) (.c rfl<| .n _)) ?_
    refine AWP.loopM (S := fun x_78 : Int × (List R56) => ⟨[(0,.own 1 2 0 x_78.2.length),(1,.sc (.int .i64 a1)),(2,.sc (.int .i64 a2)),(3,.clo (.func 57) [] []),(8,.sc (.int .i64 x_78.1))],[(1,⟨57,true,x_78.2.flatMap encR56⟩)]⟩) (x := (t8_1,a0_b)) (fun nx_79 x_78 h => ?_) h
    unfold m75_L3 at h
    refine AWP.seq ?_
    refine AWP.seq ?_
    refine AWP.region (.cons (.move (lt1 rfl) (.tmp rfl))<| .cons (.move (lt1 rfl) (.tmp rfl))<| .cons (.lss (lt1 rfl) (.tmp rfl) (.tmp rfl))<| ARun.nil _ _ _) ?_
    refine AWP.vc (s' := ⟨[(0,.own 1 2 0 x_78.2.length),(1,.sc (.int .i64 a1)),(2,.sc (.int .i64 a2)),(3,.clo (.func 57) [] []),(8,.sc (.int .i64 x_78.1)),(14,.sc (.bool (decide (x_78.1 < a2))))],[(1,⟨57,true,x_78.2.flatMap encR56⟩)]⟩) (VC.sub (.c rfl<| .c rfl<| .c rfl<| .c rfl<| .c rfl<| .c rfl<| .n _) (.c rfl<| .n _)) ?_
    refine AWP.cond (.tmp rfl) (fun hc => ?_) (fun hc => ?_)
    · have h := iteT hc h
      refine AWP.skip ?_
      refine AWP.seq ?_
      refine AWP.block ?_
      refine AWP.seq ?_
      refine AWP.region (.cons (.move (lt1 rfl) (.tmp rfl))<| .cons (.assign (lt1 rfl) (.tmp rfl))<| ARun.nil _ _ _) ?_
      refine AWP.vc (s' := ⟨[(0,.own 1 2 0 x_78.2.length),(1,.sc (.int .i64 a1)),(2,.sc (.int .i64 a2)),(3,.clo (.func 57) [] []),(8,.sc (.int .i64 x_78.1)),(9,.sc (.int .i64 x_78.1))],[(1,⟨57,true,x_78.2.flatMap encR56⟩)]⟩) (VC.sub (.c rfl<| .c rfl<| .c rfl<| .c rfl<| .c rfl<| .c rfl<| .n _) (.c rfl<| .n _)) ?_
      refine AWP.joinB' (S := fun p_114 : (List R56) => ⟨[(0,.own 1 2 0 p_114.length),(1,.sc (.int .i64 a1)),(2,.sc (.int .i64 a2)),(3,.clo (.func 57) [] []),(8,.sc (.int .i64 x_78.1))],[(1,⟨57,true,p_114.flatMap encR56⟩)]⟩) h (fun p_114 h => ?_) (fun k_115 h => ?_)
      · obtain ⟨t8_116,ht8_116,h⟩ := letS h
        refine AWP.region (.cons (.move (lt1 rfl) (.tmp rfl))<| .cons (.add (lt1 rfl) (.tmp rfl) (.const _ _ _))<| .cons (.assign (lt1 rfl) (.tmp rfl))<| ARun.nil _ _ _) ?_
        exact endJ (t8_116,p_114) h (by subst ht8_116; exact VC.sub (.c rfl<| .c rfl<| .c rfl<| .c rfl<| .c rfl<| .n _) (.c rfl<| .n _))
      · refine AWP.vc (s' := ⟨[(0,.own 1 2 0 x_78.2.length),(1,.sc (.int .i64 a1)),(2,.sc (.int .i64 a2)),(3,.clo (.func 57) [] []),(8,.sc (.int .i64 x_78.1)),(9,.sc (.int .i64 x_78.1))],[(1,⟨57,true,x_78.2.flatMap encR56⟩)]⟩) (VC.sub (.c rfl<| .c rfl<| .c rfl<| .c rfl<| .c rfl<| .c rfl<| .n _) (.c rfl<| .n _)) ?_
        refine AWP.loopM (S := fun x_102 : Int × (List R56) => ⟨[(0,.own 1 2 0 x_102.2.length),(1,.sc (.int .i64 a1)),(2,.sc (.int .i64 a2)),(3,.clo (.func 57) [] []),(8,.sc (.int .i64 x_78.1)),(9,.sc (.int .i64 x_102.1))],[(1,⟨57,true,x_102.2.flatMap encR56⟩)]⟩) (x := (x_78.1,x_78.2)) (fun nx_103 x_102 h => ?_) h
        unfold m75_L4 at h
        refine AWP.seq ?_
        refine AWP.seq ?_
        obtain ⟨y_104,hy_104,h⟩ := bindS h
        obtain ⟨y_105,hy_105,h⟩ := bindS h
        obtain ⟨y_106,hy_106,h⟩ := bindS h
        refine AWP.draw (s' := ⟨[(0,.own 1 2 0 x_102.2.length),(1,.sc (.int .i64 a1)),(2,.sc (.int .i64 a2)),(3,.clo (.func 57) [] []),(8,.sc (.int .i64 x_78.1)),(9,.sc (.int .i64 x_102.1)),(34,.sc (.bool ((decide (a1 < x_102.1)) && (decide (y_106 < (0 : Int))))))],[(1,⟨57,true,x_102.2.flatMap encR56⟩)]⟩) mixed [⟨0,.own 1 2 0 x_102.2.length,none,[]⟩,⟨1,.sc (.int .i64 a1),none,[]⟩,⟨2,.sc (.int .i64 a2),none,[]⟩,⟨3,.clo (.func 57) [] [],none,[]⟩,⟨8,.sc (.int .i64 x_78.1),none,[]⟩,⟨9,.sc (.int .i64 x_102.1),none,[]⟩,⟨18,.sc (.int .i64 x_102.1),some 0,[]⟩,⟨19,.sc (.int .i64 a1),some 1,[]⟩,⟨20,.sc (.bool (decide (a1 < x_102.1))),some 2,[]⟩,⟨21,.sc (.bool (decide (a1 < x_102.1))),some 3,[]⟩,⟨22,.gd (decide (a1 < x_102.1)) (.clo (.func 57) [] []),some 4,[]⟩,⟨23,.gd (decide (a1 < x_102.1)) (.own 1 2 0 x_102.2.length),some 5,[]⟩,⟨24,.gd (decide (a1 < x_102.1)) (.sc (.int .i64 x_102.1)),some 6,[]⟩,⟨25,.gd (decide (a1 < x_102.1)) (.ptr 1 (0 + (x_102.1).toNat * 2)),some 7,[]⟩,⟨26,.gd (decide (a1 < x_102.1)) (.agg [.rd false y_104.Pattern.length (y_104.Pattern.flatMap (encI .i64)),.sc (.int .i64 y_104.Count)]),some 8,[]⟩,⟨27,.gd (decide (a1 < x_102.1)) (.own 1 2 0 x_102.2.length),some 9,[]⟩,⟨28,.gd (decide (a1 < x_102.1)) (.sc (.int .i64 x_102.1)),some 10,[]⟩,⟨29,.gd (decide (a1 < x_102.1)) (.sc (.int .i64 (IntKind.wrap .i64 (x_102.1 - (1 : Int))))),some 11,[]⟩,⟨30,.gd (decide (a1 < x_102.1)) (.ptr 1 (0 + ((IntKind.wrap .i64 (x_102.1 - (1 : Int)))).toNat * 2)),some 12,[]⟩,⟨31,.gd (decide (a1 < x_102.1)) (.agg [.rd false y_105.Pattern.length (y_105.Pattern.flatMap (encI .i64)),.sc (.int .i64 y_105.Count)]),some 13,[]⟩,⟨32,.gd (decide (a1 < x_102.1)) (.sc (.int .i64 y_106)),some 14,[]⟩,⟨33,.gd (decide (a1 < x_102.1)) (.sc (.bool (decide (y_106 < (0 : Int))))),some 15,[]⟩,⟨34,.sc (.bool ((decide (a1 < x_102.1)) && (decide (y_106 < (0 : Int))))),some 16,[]⟩] [⟨[5],0,0,some (18,.sc (.int .i64 x_102.1)),[]⟩,⟨[1],0,0,some (19,.sc (.int .i64 a1)),[]⟩,⟨[6,7],0,0,some (20,.sc (.bool (decide (a1 < x_102.1)))),[]⟩,⟨[8],0,0,some (21,.sc (.bool (decide (a1 < x_102.1)))),[]⟩,⟨[9,3],0,0,some (22,.gd (decide (a1 < x_102.1)) (.clo (.func 57) [] [])),[]⟩,⟨[9,0],0,0,some (23,.gd (decide (a1 < x_102.1)) (.own 1 2 0 x_102.2.length)),[]⟩,⟨[9,5],0,0,some (24,.gd (decide (a1 < x_102.1)) (.sc (.int .i64 x_102.1))),[]⟩,⟨[9,11,12],0,0,some (25,.gd (decide (a1 < x_102.1)) (.ptr 1 (0 + (x_102.1).toNat * 2))),[]⟩,⟨[9,13],0,0,some (26,.gd (decide (a1 < x_102.1)) (.agg [.rd false y_104.Pattern.length (y_104.Pattern.flatMap (encI .i64)),.sc (.int .i64 y_104.Count)])),[]⟩,⟨[9,0],0,0,some (27,.gd (decide (a1 < x_102.1)) (.own 1 2 0 x_102.2.length)),[]⟩,⟨[9,5],0,0,some (28,.gd (decide (a1 < x_102.1)) (.sc (.int .i64 x_102.1))),[]⟩,⟨[9,16],0,0,some (29,.gd (decide (a1 < x_102.1)) (.sc (.int .i64 (IntKind.wrap .i64 (x_102.1 - (1 : Int)))))),[]⟩,⟨[9,15,17],0,0,some (30,.gd (decide (a1 < x_102.1)) (.ptr 1 (0 + ((IntKind.wrap .i64 (x_102.1 - (1 : Int)))).toNat * 2))),[]⟩,⟨[9,18],0,0,some (31,.gd (decide (a1 < x_102.1)) (.agg [.rd false y_105.Pattern.length (y_105.Pattern.flatMap (encI .i64)),.sc (.int .i64 y_105.Count)])),[]⟩,⟨[9,10,14,19],0,0,some (32,.gd (decide (a1 < x_102.1)) (.sc (.int .i64 y_106))),[]⟩,⟨[9,20],0,0,some (33,.gd (decide (a1 < x_102.1)) (.sc (.bool (decide (y_106 < (0 : Int)))))),[]⟩,⟨[9,21],0,0,some (34,.sc (.bool ((decide (a1 < x_102.1)) && (decide (y_106 < (0 : Int)))))),[]⟩] [] [[(1,⟨57,true,x_102.2.flatMap encR56⟩)]] [[],[],[0,1],[0,1,2],[0,1,2,3],[0,1,2,3],[0,1,2,3],[0,1,2,3,5,6],[0,1,2,3,5,6,7],[0,1,2,3],[0,1,2,3],[0,1,2,3,10],[0,1,2,3,9,10,11],[0,1,2,3,9,10,11,12],[0,1,2,3,4,5,6,7,8,9,10,11,12,13],[0,1,2,3,4,5,6,7,8,9,10,11,12,13,14],[0,1,2,3,4,5,6,7,8,9,10,11,12,13,14,15]] (by kernel_rfl) (by kernel_rfl) (BornL.ok (.o<| .o<| .o<| .o<| .o<| .o<| .b rfl rfl<| .b rfl rfl<| .b rfl rfl<| .b rfl rfl<| .b rfl rfl<| .b rfl rfl<| .b rfl rfl<| .b rfl rfl<| .b rfl rfl<| .b rfl rfl<| .b rfl rfl<| .b rfl rfl<| .b rfl rfl<| .b rfl rfl<| .b rfl rfl<| .b rfl rfl<| .b rfl rfl<| .n)) (BaseL.ok (.o rfl<| .o rfl<| .o rfl<| .o rfl<| .o rfl<| .o rfl<| .b<| .b<| .b<| .b<| .b<| .b<| .b<| .b<| .b<| .b<| .b<| .b<| .b<| .b<| .b<| .b<| .b<| .n)) rfl (by decide) (allLt rfl) (.pure rfl (fun H => .put (fun E hE => .move (lt1 rfl) (.tmp (hE.at (k := 0) rfl))))<| .pure rfl (fun H => .put (fun E hE => .move (lt1 rfl) (.tmp (hE.at (k := 0) rfl))))<| .pure rfl (fun H => .put (fun E hE => .gtr (lt1 rfl) (.tmp (hE.at (k := 0) rfl)) (.tmp (hE.at (k := 1) rfl))))<| .pure rfl (fun H => .put (fun E hE => .move (lt1 rfl) (.tmp (hE.at (k := 0) rfl))))<| .pure rfl (fun H => .gput (b := (decide (a1 < x_102.1))) (want := true) (j := 3) (dj := 21) rfl (lt1 rfl) (lt1 rfl) (fun E hE => hE.at (k := 0) rfl) (fun hg E hE => .move (lt1 rfl) (.tmp (hE.at (k := 1) rfl))))<| .read rfl (.c (.gput (b := (decide (a1 < x_102.1))) (want := true) (j := 3) (dj := 21) rfl (lt1 rfl) (lt1 rfl) (fun E hE => hE.at (k := 0) rfl) (fun hg E hE => .move (lt1 rfl) (.tmp (hE.at (k := 1) rfl)))) .n)<| .pure rfl (fun H => .gput (b := (decide (a1 < x_102.1))) (want := true) (j := 3) (dj := 21) rfl (lt1 rfl) (lt1 rfl) (fun E hE => hE.at (k := 0) rfl) (fun hg E hE => .move (lt1 rfl) (.tmp (hE.at (k := 1) rfl))))<| .read rfl (.c (.gput (b := (decide (a1 < x_102.1))) (want := true) (j := 3) (dj := 21) rfl (lt1 rfl) (lt1 rfl) (fun E hE => hE.at (k := 0) rfl) (fun hg E hE => .idxOwn (lt1 rfl) (.gd hg (.tmp (hE.at (k := 1) rfl))) (.gd hg (.tmp (hE.at (k := 2) rfl))) Try.underlying52 sz57 rfl (gdB hy_104 hg))) .n)<| .read rfl (.c (.gput (b := (decide (a1 < x_102.1))) (want := true) (j := 3) (dj := 21) rfl (lt1 rfl) (lt1 rfl) (fun E hE => hE.at (k := 0) rfl) (fun hg E hE => .loadPA (lt1 rfl) (.gd hg (.tmp (hE.at (k := 1) rfl))) agg57 rfl (cells_at encR56_len (gdB hy_104 hg)) rfl rfl)) .n)<| .read rfl (.c (.gput (b := (decide (a1 < x_102.1))) (want := true) (j := 3) (dj := 21) rfl (lt1 rfl) (lt1 rfl) (fun E hE => hE.at (k := 0) rfl) (fun hg E hE => .move (lt1 rfl) (.tmp (hE.at (k := 1) rfl)))) .n)<| .pure rfl (fun H => .gput (b := (decide (a1 < x_102.1))) (want := true) (j := 3) (dj := 21) rfl (lt1 rfl) (lt1 rfl) (fun E hE => hE.at (k := 0) rfl) (fun hg E hE => .move (lt1 rfl) (.tmp (hE.at (k := 1) rfl))))<| .pure rfl (fun H => .gput (b := (decide (a1 < x_102.1))) (want := true) (j := 3) (dj := 21) rfl (lt1 rfl) (lt1 rfl) (fun E hE => hE.at (k := 0) rfl) (fun hg E hE => .sub (lt1 rfl) (.gd hg (.tmp (hE.at (k := 1) rfl))) (.const _ _ _)))<| .read rfl (.c (.gput (b := (decide (a1 < x_102.1))) (want := true) (j := 3) (dj := 21) rfl (lt1 rfl) (lt1 rfl) (fun E hE => hE.at (k := 0) rfl) (fun hg E hE => .idxOwn (lt1 rfl) (.gd hg (.tmp (hE.at (k := 1) rfl))) (.gd hg (.tmp (hE.at (k := 2) rfl))) Try.underlying52 sz57 rfl (gdB hy_105 hg))) .n)<| .read rfl (.c (.gput (b := (decide (a1 < x_102.1))) (want := true) (j := 3) (dj := 21) rfl (lt1 rfl) (lt1 rfl) (fun E hE => hE.at (k := 0) rfl) (fun hg E hE => .loadPA (lt1 rfl) (.gd hg (.tmp (hE.at (k := 1) rfl))) agg57 rfl (cells_at encR56_len (gdB hy_105 hg)) rfl rfl)) .n)<| .read rfl (.c (.gput (b := (decide (a1 < x_102.1))) (want := true) (j := 3) (dj := 21) rfl (lt1 rfl) (lt1 rfl) (fun E hE => hE.at (k := 0) rfl) (fun hg E hE => .keep (bw := false) (AStep.callV (us' := []) (avs := [.agg [.rd false ((R56.mk y_104.Pattern y_104.Count).Pattern).length (((R56.mk y_104.Pattern y_104.Count).Pattern).flatMap (encI .i64)),.sc (.int .i64 ((R56.mk y_104.Pattern y_104.Count).Count))],.agg [.rd false ((R56.mk y_105.Pattern y_105.Count).Pattern).length (((R56.mk y_105.Pattern y_105.Count).Pattern).flatMap (encI .i64)),.sc (.int .i64 ((R56.mk y_105.Pattern y_105.Count).Count))]]) (cs' := []) (σ := sgT []) (bw := false) (lt1 rfl) (.gd hg (.tmp (hE.at (k := 1) rfl))) (c57 (β1 := false) (β2 := false) n (R56.mk y_104.Pattern y_104.Count) (R56.mk y_105.Pattern y_105.Count) (gdB hy_106 hg)) (.nil) (.cons (.gd hg (.tmp (hE.at (k := 2) rfl))) (.ren rfl) (.cons (.gd hg (.tmp (hE.at (k := 3) rfl))) (.ren rfl) (.nil))) (.nil) (CallOk.mk' (.n) rfl) (fun _ h => by cases h)) (CallOk.mk' (.n) rfl) rfl rfl)) .n)<| .pure rfl (fun H => .gput (b := (decide (a1 < x_102.1))) (want := true) (j := 3) (dj := 21) rfl (lt1 rfl) (lt1 rfl) (fun E hE => hE.at (k := 0) rfl) (fun hg E hE => .lss (lt1 rfl) (.gd hg (.tmp (hE.at (k := 1) rfl))) (.const _ _ _)))<| .pure rfl (fun H => .put (fun E hE => .pickAnd (lt1 rfl) (.tmp (hE.at (k := 0) rfl)) (.tmp (hE.at (k := 1) rfl)) (.const _ _ _)))<| .nil _) (fun E hE => .c (DInv.at hE (k := 0) rfl rfl rfl)<| .c (DInv.at hE (k := 1) rfl rfl rfl)<| .c (DInv.at hE (k := 2) rfl rfl rfl)<| .c (DInv.at hE (k := 3) rfl rfl rfl)<| .c (DInv.at hE (k := 4) rfl rfl rfl)<| .c (DInv.at hE (k := 5) rfl rfl rfl)<| .c (DInv.at hE (k := 22) rfl rfl rfl)<| .n _) rfl ?_
        refine AWP.vc (s' := ⟨[(0,.own 1 2 0 x_102.2.length),(1,.sc (.int .i64 a1)),(2,.sc (.int .i64 a2)),(3,.clo (.func 57) [] []),(8,.sc (.int .i64 x_78.1)),(9,.sc (.int .i64 x_102.1)),(34,.sc (.bool ((decide (a1 < x_102.1)) && (decide (y_106 < (0 : Int))))))],[(1,⟨57,true,x_102.2.flatMap encR56⟩)]⟩) (VC.sub (.c rfl<| .c rfl<| .c rfl<| .c rfl<| .c rfl<| .c rfl<| .c rfl<| .n _) (.c rfl<| .n _)) ?_
        refine AWP.cond (.tmp rfl) (fun hc => ?_) (fun hc => ?_)
        · have h := iteT hc h
          refine AWP.skip ?_
          refine AWP.seq ?_
          refine AWP.block ?_
          obtain ⟨y_107,hy_107,h⟩ := bindS h
          obtain ⟨y_108,hy_108,h⟩ := bindS h
          obtain ⟨y_109,hy_109,h⟩ := bindS h
          obtain ⟨l1_110,hl1_110,h⟩ := bindS h
          obtain ⟨y_111,hy_111,h⟩ := bindS h
          obtain ⟨l1_112,hl1_112,h⟩ := bindS h
          refine AWP.draw (s' := ⟨[(0,.own 1 2 0 x_102.2.length),(1,.sc (.int .i64 a1)),(2,.sc (.int .i64 a2)),(3,.clo (.func 57) [] []),(8,.sc (.int .i64 x_78.1)),(9,.sc (.int .i64 x_102.1))],[(1,⟨57,true,l1_112.flatMap encR56⟩)]⟩) mixed [⟨0,.own 1 2 0 x_102.2.length,none,[]⟩,⟨1,.sc (.int .i64 a1),none,[]⟩,⟨2,.sc (.int .i64 a2),none,[]⟩,⟨3,.clo (.func 57) [] [],none,[]⟩,⟨8,.sc (.int .i64 x_78.1),none,[]⟩,⟨9,.sc (.int .i64 x_102.1),none,[]⟩,⟨34,.sc (.bool ((decide (a1 < x_102.1)) && (decide (y_106 < (0 : Int))))),none,[]⟩,⟨37,.own 1 2 0 x_102.2.length,some 0,[]⟩,⟨38,.sc (.int .i64 x_102.1),some 1,[]⟩,⟨39,.own 1 2 0 x_102.2.length,some 2,[]⟩,⟨40,.sc (.int .i64 x_102.1),some 3,[]⟩,⟨41,.sc (.int .i64 (IntKind.wrap .i64 (x_102.1 - (1 : Int)))),some 4,[]⟩,⟨42,.own 1 2 0 x_102.2.length,some 5,[]⟩,⟨43,.sc (.int .i64 x_102.1),some 6,[]⟩,⟨44,.sc (.int .i64 (IntKind.wrap .i64 (x_102.1 - (1 : Int)))),some 7,[]⟩,⟨45,.ptr 1 (0 + ((IntKind.wrap .i64 (x_102.1 - (1 : Int)))).toNat * 2),some 8,[]⟩,⟨46,.agg [.rd false y_107.Pattern.length (y_107.Pattern.flatMap (encI .i64)),.sc (.int .i64 y_107.Count)],some 9,[]⟩,⟨47,.own 1 2 0 x_102.2.length,some 10,[]⟩,⟨48,.sc (.int .i64 x_102.1),some 11,[]⟩,⟨49,.ptr 1 (0 + (x_102.1).toNat * 2),some 12,[]⟩,⟨50,.agg [.rd false y_108.Pattern.length (y_108.Pattern.flatMap (encI .i64)),.sc (.int .i64 y_108.Count)],some 13,[]⟩,⟨51,.ptr 1 (0 + (x_102.1).toNat * 2),some 14,[]⟩,⟨52,.ptr 1 (0 + ((IntKind.wrap .i64 (x_102.1 - (1 : Int)))).toNat * 2),some 16,[]⟩] [⟨[0],0,0,some (37,.own 1 2 0 x_102.2.length),[]⟩,⟨[5],0,2,some (38,.sc (.int .i64 x_102.1)),[]⟩,⟨[0],0,1,some (39,.own 1 2 0 x_102.2.length),[]⟩,⟨[5],0,2,some (40,.sc (.int .i64 x_102.1)),[]⟩,⟨[10],0,2,some (41,.sc (.int .i64 (IntKind.wrap .i64 (x_102.1 - (1 : Int))))),[]⟩,⟨[0],0,0,some (42,.own 1 2 0 x_102.2.length),[]⟩,⟨[5],0,2,some (43,.sc (.int .i64 x_102.1)),[]⟩,⟨[13],0,2,some (44,.sc (.int .i64 (IntKind.wrap .i64 (x_102.1 - (1 : Int))))),[]⟩,⟨[12,14],0,0,some (45,.ptr 1 (0 + ((IntKind.wrap .i64 (x_102.1 - (1 : Int)))).toNat * 2)),[]⟩,⟨[15],0,0,some (46,.agg [.rd false y_107.Pattern.length (y_107.Pattern.flatMap (encI .i64)),.sc (.int .i64 y_107.Count)]),[]⟩,⟨[0],0,0,some (47,.own 1 2 0 x_102.2.length),[]⟩,⟨[5],0,2,some (48,.sc (.int .i64 x_102.1)),[]⟩,⟨[17,18],0,0,some (49,.ptr 1 (0 + (x_102.1).toNat * 2)),[]⟩,⟨[19],0,0,some (50,.agg [.rd false y_108.Pattern.length (y_108.Pattern.flatMap (encI .i64)),.sc (.int .i64 y_108.Count)]),[]⟩,⟨[7,8],0,0,some (51,.ptr 1 (0 + (x_102.1).toNat * 2)),[]⟩,⟨[21,16],0,0,none,[]⟩,⟨[9,11],1,1,some (52,.ptr 1 (0 + ((IntKind.wrap .i64 (x_102.1 - (1 : Int)))).toNat * 2)),[]⟩,⟨[22,20],1,1,none,[]⟩] [15,17] [[(1,⟨57,true,x_102.2.flatMap encR56⟩)],[(1,⟨57,true,l1_110.flatMap encR56⟩)],[(1,⟨57,true,l1_112.flatMap encR56⟩)]] [[],[],[],[],[3],[],[],[6],[5,6,7],[5,6,7,8],[],[],[10,11],[10,11,12],[0,1,5,6,7,8,9,10,11,12,13],[0,1,5,6,7,8,9,10,11,12,13,14],[0,1,2,3,4,5,6,7,8,9,10,11,12,13,14,15],[0,1,2,3,4,5,6,7,8,9,10,11,12,13,14,15,16]] (by kernel_rfl) (by kernel_rfl) (BornL.ok (.o<| .o<| .o<| .o<| .o<| .o<| .o<| .b rfl rfl<| .b rfl rfl<| .b rfl rfl<| .b rfl rfl<| .b rfl rfl<| .b rfl rfl<| .b rfl rfl<| .b rfl rfl<| .b rfl rfl<| .b rfl rfl<| .b rfl rfl<| .b rfl rfl<| .b rfl rfl<| .b rfl rfl<| .b rfl rfl<| .b rfl rfl<| .n)) (BaseL.ok (.o rfl<| .o rfl<| .o rfl<| .o rfl<| .o rfl<| .o rfl<| .o rfl<| .b<| .b<| .b<| .b<| .b<| .b<| .b<| .b<| .b<| .b<| .b<| .b<| .b<| .b<| .b<| .b<| .n)) rfl (by decide) (allLt rfl) (.read rfl (.c (.put (fun E hE => .move (lt1 rfl) (.tmp (hE.at (k := 0) rfl)))) (.n))<| .pure rfl (fun H => .put (fun E hE => .move (lt1 rfl) (.tmp (hE.at (k := 0) rfl))))<| .read rfl (.c (.put (fun E hE => .move (lt1 rfl) (.tmp (hE.at (k := 0) rfl)))) (.c (.put (fun E hE => .move (lt1 rfl) (.tmp (hE.at (k := 0) rfl)))) (.n)))<| .pure rfl (fun H => .put (fun E hE => .move (lt1 rfl) (.tmp (hE.at (k := 0) rfl))))<| .pure rfl (fun H => .put (fun E hE => .sub (lt1 rfl) (.tmp (hE.at (k := 0) rfl)) (.const _ _ _)))<| .read rfl (.c (.put (fun E hE => .move (lt1 rfl) (.tmp (hE.at (k := 0) rfl)))) (.n))<| .pure rfl (fun H => .put (fun E hE => .move (lt1 rfl) (.tmp (hE.at (k := 0) rfl))))<| .pure rfl (fun H => .put (fun E hE => .sub (lt1 rfl) (.tmp (hE.at (k := 0) rfl)) (.const _ _ _)))<| .read rfl (.c (.put (fun E hE => .idxOwn (lt1 rfl) (.tmp (hE.at (k := 0) rfl)) (.tmp (hE.at (k := 1) rfl)) Try.underlying52 sz57 rfl hy_107)) (.n))<| .read rfl (.c (.put (fun E hE => .loadPA (lt1 rfl) (.tmp (hE.at (k := 0) rfl)) agg57 rfl (cells_at encR56_len hy_107) rfl rfl)) (.n))<| .read rfl (.c (.put (fun E hE => .move (lt1 rfl) (.tmp (hE.at (k := 0) rfl)))) (.n))<| .pure rfl (fun H => .put (fun E hE => .move (lt1 rfl) (.tmp (hE.at (k := 0) rfl))))<| .read rfl (.c (.put (fun E hE => .idxOwn (lt1 rfl) (.tmp (hE.at (k := 0) rfl)) (.tmp (hE.at (k := 1) rfl)) Try.underlying52 sz57 rfl hy_108)) (.n))<| .read rfl (.c (.put (fun E hE => .loadPA (lt1 rfl) (.tmp (hE.at (k := 0) rfl)) agg57 rfl (cells_at encR56_len hy_108) rfl rfl)) (.n))<| .read rfl (.c (.put (fun E hE => .idxOwn (lt1 rfl) (.tmp (hE.at (k := 0) rfl)) (.tmp (hE.at (k := 1) rfl)) Try.underlying52 sz57 rfl hy_109)) (.n))<| .turn rfl rfl rfl rfl rfl (.store (fun E hE => .storePA (.tmp (hE.at (k := 0) rfl)) (.tmp (hE.at (k := 1) rfl)) sz57 rfl rfl (le_at encR56_len hy_109) (one_lit rfl) (fun _ => still_lit rfl) (splL_at encR56_len hy_109 hl1_110)) rfl)<| .read rfl (.c (.put (fun E hE => .idxOwn (lt1 rfl) (.ownN (Eq.symm (setLen hl1_110)) (.tmp (hE.at (k := 0) rfl))) (.tmp (hE.at (k := 1) rfl)) Try.underlying52 sz57 rfl hy_111)) (.n))<| .turn rfl rfl rfl rfl rfl (.store (fun E hE => .storePA (.tmp (hE.at (k := 0) rfl)) (.tmp (hE.at (k := 1) rfl)) sz57 rfl rfl (le_at encR56_len hy_111) (one_lit rfl) (fun _ => still_lit rfl) (splL_at encR56_len hy_111 hl1_112)) rfl)<| .nil _) (fun E hE => .c (DInv.at hE (k := 0) rfl rfl rfl)<| .c (DInv.at hE (k := 1) rfl rfl rfl)<| .c (DInv.at hE (k := 2) rfl rfl rfl)<| .c (DInv.at hE (k := 3) rfl rfl rfl)<| .c (DInv.at hE (k := 4) rfl rfl rfl)<| .c (DInv.at hE (k := 5) rfl rfl rfl)<| .n _) rfl ?_
          refine AWP.vc (s' := ⟨[(0,.own 1 2 0 l1_112.length),(1,.sc (.int .i64 a1)),(2,.sc (.int .i64 a2)),(3,.clo (.func 57) [] []),(8,.sc (.int .i64 x_78.1)),(9,.sc (.int .i64 x_102.1))],[(1,⟨57,true,l1_112.flatMap encR56⟩)]⟩) (VC.sub (.c (lenC (Eq.symm (Eq.trans (setLen hl1_112) (setLen hl1_110))) rfl)<| .c rfl<| .c rfl<| .c rfl<| .c rfl<| .c rfl<| .n _) (.c rfl<| .n _)) ?_
          obtain ⟨t9_113,ht9_113,h⟩ := letS h
          refine AWP.region (.cons (.move (lt1 rfl) (.tmp rfl))<| .cons (.sub (lt1 rfl) (.tmp rfl) (.const _ _ _))<| .cons (.assign (lt1 rfl) (.tmp rfl))<| ARun.nil _ _ _) ?_
          exact endJ (t9_113,l1_112) h (by subst ht9_113; exact VC.sub (.c rfl<| .c rfl<| .c rfl<| .c rfl<| .c rfl<| .c rfl<| .n _) (.c rfl<| .n _))
        · have h := iteF hc h
          refine AWP.exit ?_
          exact endJ x_102.2 h (VC.sub (.c rfl<| .c rfl<| .c rfl<| .c rfl<| .c rfl<| .n _) (.c rfl<| .n _))
    · have h := iteF hc h
      refine AWP.exit ?_
      exact endJ x_78.2 h (VC.sub (.n _) (.c rfl<| .n _))
theorem c65 (n : Nat) (a0_b : (List R56)) (a1 : Int) {r : (List R56)} (h : m65 n a0_b a1 = some r) : Spec Try.prog 65 [1] [.own 1 2 0 a0_b.length,.sc (.int .i64 a1),.clo (.func 57) [] []] [(1,⟨57,true,a0_b.flatMap encR56⟩)] (.tup []) [(1,⟨57,true,r.flatMap encR56⟩)] := by
  refine Spec.of (fn := Try.f65) Try.func65 Try.ntmps65 rfl rfl (le1 rfl) (fun w0 Zs Zb T0 ι0 => ?_)
  unfold m65 at h
  refine AWP.seq ?_
  refine AWP.region (.cons (.assign (lt1 rfl) (.const _ _ _))<| ARun.nil _ _ _) ?_
  refine AWP.vc (s' := ⟨[(0,.own 1 2 0 a0_b.length),(1,.sc (.int .i64 a1)),(2,.clo (.func 57) [] []),(6,.sc (.int .i64 (20 : Int)))],[(1,⟨57,true,a0_b.flatMap encR56⟩)]⟩) (VC.sub (.c rfl<| .c rfl<| .c rfl<| .c rfl<| .n _) (.c rfl<| .n _)) ?_
  refine AWP.seq ?_
  refine AWP.region (.cons (.move (lt1 rfl) (.tmp rfl))<| .cons (.assign (lt1 rfl) (.const _ _ _))<| .cons (.assign (lt1 rfl) (.tmp rfl))<| ARun.nil _ _ _) ?_
  refine AWP.vc (s' := ⟨[(0,.own 1 2 0 a0_b.length),(1,.sc (.int .i64 a1)),(2,.clo (.func 57) [] []),(6,.sc (.int .i64 (20 : Int))),(7,.sc (.int .i64 (0 : Int))),(8,.sc (.int .i64 (20 : Int)))],[(1,⟨57,true,a0_b.flatMap encR56⟩)]⟩) (VC.sub (.c rfl<| .c rfl<| .c rfl<| .c rfl<| .c rfl<| .c rfl<| .n _) (.c rfl<| .n _)) ?_
  refine AWP.seq ?_
  refine AWP.joinB' (S := fun p_14 : Int × (List R56) => ⟨[(0,.own 1 2 0 p_14.2.length),(1,.sc (.int .i64 a1)),(2,.clo (.func 57) [] []),(6,.sc (.int .i64 (20 : Int))),(7,.sc (.int .i64 p_14.1))],[(1,⟨57,true,p_14.2.flatMap encR56⟩)]⟩) h (fun p_14 h => ?_) (fun k_15 h => ?_)
  · refine AWP.seq ?_
    obtain ⟨y_16,hy_16,h⟩ := bindS h
    obtain ⟨ha_17,h⟩ := asrtS h
    refine AWP.region (.cons (.move (lt1 rfl) (.tmp rfl))<| .cons (.move (lt1 rfl) (.tmp rfl))<| .cons (.move (lt1 rfl) (.tmp rfl))<| .cons (.move (lt1 rfl) (.tmp rfl))<| .cons (.call (σ := fun _ => 1) (bw := false) (lt1 rfl) (c75 n p_14.2 p_14.1 a1 hy_16) (.cons (.tmp rfl) (.ren rfl) (.cons (.tmp rfl) (.ren rfl) (.cons (.tmp rfl) (.ren rfl) (.cons (.tmp rfl) (.ren rfl) (.nil))))) (CallOk.mk' (.c rfl (.n)) rfl))<| ARun.nil _ _ _) ?_
    refine AWP.vc (s' := ⟨[(0,.own 1 2 0 y_16.length),(1,.sc (.int .i64 a1)),(2,.clo (.func 57) [] []),(6,.sc (.int .i64 (20 : Int)))],[(1,⟨57,true,y_16.flatMap encR56⟩)]⟩) (VC.sub (.c (lenC (Eq.symm (Eq.symm ha_17)) rfl)<| .c rfl<| .c rfl<| .c rfl<| .n _) (.c rfl<| .n _)) ?_
    refine AWP.joinB' (S := fun p_37 : Unit => ⟨[],[(1,⟨57,true,y_16.flatMap encR56⟩)]⟩) h (fun p_37 h => ?_) (fun k_38 h => ?_)
    · obtain rfl := Option.some.inj h
      refine norJ (Res.vc (s' := ⟨[],[(1,⟨57,true,y_16.flatMap encR56⟩)]⟩) (VC.sub (.n _) (.c rfl<| .n _)) ?_)
      refine Res.sub (H := [(1,⟨57,true,y_16.flatMap encR56⟩)]) (.c rfl<| .n _) ?_
      exact Res.of rfl (.nil) rfl rfl
    · refine AWP.vc (s' := ⟨[(0,.own 1 2 0 y_16.length),(1,.sc (.int .i64 a1)),(2,.clo (.func 57) [] []),(6,.sc (.int .i64 (20 : Int)))],[(1,⟨57,true,y_16.flatMap encR56⟩)]⟩) (VC.sub (.c rfl<| .c rfl<| .c rfl<| .c rfl<| .n _) (.c rfl<| .n _)) ?_
      refine AWP.loopM (S := fun x_27 : Int => ⟨[(0,.own 1 2 0 y_16.length),(1,.sc (.int .i64 a1)),(2,.clo (.func 57) [] []),(6,.sc (.int .i64 x_27))],[(1,⟨57,true,y_16.flatMap encR56⟩)]⟩) (x := (20 : Int)) (fun nx_28 x_27 h => ?_) h
      unfold m65_L3 at h
      refine AWP.seq ?_
      refine AWP.seq ?_
      refine AWP.region (.cons (.move (lt1 rfl) (.tmp rfl))<| .cons (.move (lt1 rfl) (.tmp rfl))<| .cons (.lss (lt1 rfl) (.tmp rfl) (.tmp rfl))<| ARun.nil _ _ _) ?_
      refine AWP.vc (s' := ⟨[(0,.own 1 2 0 y_16.length),(1,.sc (.int .i64 a1)),(2,.clo (.func 57) [] []),(6,.sc (.int .i64 x_27)),(30,.sc (.bool (decide (x_27 < a1))))],[(1,⟨57,true,y_16.flatMap encR56⟩)]⟩) (VC.sub (.c rfl<| .c rfl<| .c rfl<| .c rfl<| .c rfl<| .n _) (.c rfl<| .n _)) ?_
      refine AWP.cond (.tmp rfl) (fun hc => ?_) (fun hc => ?_)
      · have h := iteT hc h
        refine AWP.skip ?_
        refine AWP.block ?_
        refine AWP.seq ?_
        obtain ⟨t8_29,ht8_29,h⟩ := letS h
        refine AWP.region (.cons (.move (lt1 rfl) (.tmp rfl))<| .cons (.mul (lt1 rfl) (.const _ _ _) (.tmp rfl))<| .cons (.assign (lt1 rfl) (.const _ _ _))<| .cons (.assign (lt1 rfl) (.tmp rfl))<| ARun.nil _ _ _) ?_
        refine AWP.vc (s' := ⟨[(0,.own 1 2 0 y_16.length),(1,.sc (.int .i64 a1)),(2,.clo (.func 57) [] []),(6,.sc (.int .i64 x_27)),(7,.sc (.int .i64 (0 : Int))),(8,.sc (.int .i64 t8_29))],[(1,⟨57,true,y_16.flatMap encR56⟩)]⟩) (by subst ht8_29; exact VC.sub (.c rfl<| .c rfl<| .c rfl<| .c rfl<| .c rfl<| .c rfl<| .n _) (.c rfl<| .n _)) ?_
        refine AWP.seq ?_
        refine AWP.joinB' (S := fun p_33 : Int => ⟨[(0,.own 1 2 0 y_16.length),(1,.sc (.int .i64 a1)),(2,.clo (.func 57) [] []),(6,.sc (.int .i64 x_27)),(7,.sc (.int .i64 p_33))],[(1,⟨57,true,y_16.flatMap encR56⟩)]⟩) h (fun p_33 h => ?_) (fun k_34 h => ?_)
        · refine AWP.seq ?_
          refine AWP.seq ?_
          obtain ⟨t9_35,ht9_35,h⟩ := letS h
          refine AWP.region (.cons (.move (lt1 rfl) (.tmp rfl))<| .cons (.move (lt1 rfl) (.tmp rfl))<| .cons (.add (lt1 rfl) (.tmp rfl) (.tmp rfl))<| .cons (.assign (lt1 rfl) (.tmp rfl))<| ARun.nil _ _ _) ?_
          refine AWP.vc (s' := ⟨[(0,.own 1 2 0 y_16.length),(1,.sc (.int .i64 a1)),(2,.clo (.func 57) [] []),(6,.sc (.int .i64 x_27)),(7,.sc (.int .i64 p_33)),(9,.sc (.int .i64 t9_35))],[(1,⟨57,true,y_16.flatMap encR56⟩)]⟩) (by subst ht9_35; exact VC.sub (.c rfl<| .c rfl<| .c rfl<| .c rfl<| .c rfl<| .c rfl<| .n _) (.c rfl<| .n _)) ?_
          refine AWP.seq ?_
          refine AWP.region (.cons (.move (lt1 rfl) (.tmp rfl))<| .cons (.move (lt1 rfl) (.tmp rfl))<| .cons (.lss (lt1 rfl) (.tmp rfl) (.tmp rfl))<| ARun.nil _ _ _) ?_
          refine AWP.vc (s' := ⟨[(0,.own 1 2 0 y_16.length),(1,.sc (.int .i64 a1)),(2,.clo (.func 57) [] []),(6,.sc (.int .i64 x_27)),(7,.sc (.int .i64 p_33)),(9,.sc (.int .i64 t9_35)),(54,.sc (.bool (decide (t9_35 < a1))))],[(1,⟨57,true,y_16.flatMap encR56⟩)]⟩) (VC.sub (.c rfl<| .c rfl<| .c rfl<| .c rfl<| .c rfl<| .c rfl<| .c rfl<| .n _) (.c rfl<| .n _)) ?_
          refine AWP.cond (.tmp rfl) (fun hc => ?_) (fun hc => ?_)
          · have h := iteT hc h
            cases h
          · have h := iteF hc h
            refine AWP.skip ?_
            obtain ⟨t6_36,ht6_36,h⟩ := letS h
            refine AWP.region (.cons (.move (lt1 rfl) (.tmp rfl))<| .cons (.mul (lt1 rfl) (.tmp rfl) (.const _ _ _))<| .cons (.assign (lt1 rfl) (.tmp rfl))<| ARun.nil _ _ _) ?_
            exact endJ t6_36 h (by subst ht6_36; exact VC.sub (.c rfl<| .c rfl<| .c rfl<| .c rfl<| .n _) (.c rfl<| .n _))
        · refine AWP.vc (s' := ⟨[(0,.own 1 2 0 y_16.length),(1,.sc (.int .i64 a1)),(2,.clo (.func 57) [] []),(6,.sc (.int .i64 x_27)),(7,.sc (.int .i64 (0 : Int))),(8,.sc (.int .i64 t8_29))],[(1,⟨57,true,y_16.flatMap encR56⟩)]⟩) (VC.sub (.c rfl<| .c rfl<| .c rfl<| .c rfl<| .c rfl<| .c rfl<| .n _) (.c rfl<| .n _)) ?_
          refine AWP.loopM (S := fun x_31 : Int => ⟨[(0,.own 1 2 0 y_16.length),(1,.sc (.int .i64 a1)),(2,.clo (.func 57) [] []),(6,.sc (.int .i64 x_27)),(7,.sc (.int .i64 x_31)),(8,.sc (.int .i64 t8_29))],[(1,⟨57,true,y_16.flatMap encR56⟩)]⟩) (x := (0 : Int)) (fun nx_32 x_31 h => ?_) h
          unfold m65_L4 at h
          refine AWP.seq ?_
          refine AWP.seq ?_
          refine AWP.region (.cons (.move (lt1 rfl) (.tmp rfl))<| .cons (.move (lt1 rfl) (.tmp rfl))<| .cons (.leq (lt1 rfl) (.tmp rfl) (.tmp rfl))<| ARun.nil _ _ _) ?_
          refine AWP.vc (s' := ⟨[(0,.own 1 2 0 y_16.length),(1,.sc (.int .i64 a1)),(2,.clo (.func 57) [] []),(6,.sc (.int .i64 x_27)),(7,.sc (.int .i64 x_31)),(8,.sc (.int .i64 t8_29)),(35,.sc (.bool (decide (t8_29 ≤ a1))))],[(1,⟨57,true,y_16.flatMap encR56⟩)]⟩) (VC.sub (.c rfl<| .c rfl<| .c rfl<| .c rfl<| .c rfl<| .c rfl<| .c rfl<| .n _) (.c rfl<| .n _)) ?_
          refine AWP.cond (.tmp rfl) (fun hc => ?_) (fun hc => ?_)
          · have h := iteT hc h
            refine AWP.skip ?_
            refine AWP.block ?_
            refine AWP.seq ?_
            cases h
          · have h := iteF hc h
            refine AWP.exit ?_
            exact endJ x_31 h (VC.sub (.c rfl<| .c rfl<| .c rfl<| .c rfl<| .c rfl<| .n _) (.c rfl<| .n _))
      · have h := iteF hc h
        refine AWP.exit ?_
        exact endJ () h (VC.sub (.n _) (.c rfl<| .n _))
  · refine AWP.vc (s' := ⟨[(0,.own 1 2 0 a0_b.length),(1,.sc (.int .i64 a1)),(2,.clo (.func 57) [] []),(6,.sc (.int .i64 (20 : Int))),(7,.sc (.int .i64 (0 : Int))),(8,.sc (.int .i64 (20 : Int)))],[(1,⟨57,true,a0_b.flatMap encR56⟩)]⟩) (VC.sub (.c rfl<| .c rfl<| .c rfl<| .c rfl<| .c rfl<| .c rfl<| .n _) (.c rfl<| .n _)) ?_
    refine AWP.loopM (S := fun x_9 : Int × Int × (List R56) => ⟨[(0,.own 1 2 0 x_9.2.2.length),(1,.sc (.int .i64 a1)),(2,.clo (.func 57) [] []),(6,.sc (.int .i64 (20 : Int))),(7,.sc (.int .i64 x_9.1)),(8,.sc (.int .i64 x_9.2.1))],[(1,⟨57,true,x_9.2.2.flatMap encR56⟩)]⟩) (x := ((0 : Int),(20 : Int),a0_b)) (fun nx_10 x_9 h => ?_) h
    unfold m65_L1 at h
    refine AWP.seq ?_
    refine AWP.seq ?_
    refine AWP.region (.cons (.move (lt1 rfl) (.tmp rfl))<| .cons (.move (lt1 rfl) (.tmp rfl))<| .cons (.leq (lt1 rfl) (.tmp rfl) (.tmp rfl))<| ARun.nil _ _ _) ?_
    refine AWP.vc (s' := ⟨[(0,.own 1 2 0 x_9.2.2.length),(1,.sc (.int .i64 a1)),(2,.clo (.func 57) [] []),(6,.sc (.int .i64 (20 : Int))),(7,.sc (.int .i64 x_9.1)),(8,.sc (.int .i64 x_9.2.1)),(13,.sc (.bool (decide (x_9.2.1 ≤ a1))))],[(1,⟨57,true,x_9.2.2.flatMap encR56⟩)]⟩) (VC.sub (.c rfl<| .c rfl<| .c rfl<| .c rfl<| .c rfl<| .c rfl<| .c rfl<| .n _) (.c rfl<| .n _)) ?_
    refine AWP.cond (.tmp rfl) (fun hc => ?_) (fun hc => ?_)
    · have h := iteT hc h
      refine AWP.skip ?_
      refine AWP.block ?_
      refine AWP.seq ?_
      obtain ⟨y_11,hy_11,h⟩ := bindS h
      obtain ⟨ha_12,h⟩ := asrtS h
      refine AWP.region (.cons (.move (lt1 rfl) (.tmp rfl))<| .cons (.move (lt1 rfl) (.tmp rfl))<| .cons (.move (lt1 rfl) (.tmp rfl))<| .cons (.move (lt1 rfl) (.tmp rfl))<| .cons (.call (σ := fun _ => 1) (bw := false) (lt1 rfl) (c75 n x_9.2.2 x_9.1 x_9.2.1 hy_11) (.cons (.tmp rfl) (.ren rfl) (.cons (.tmp rfl) (.ren rfl) (.cons (.tmp rfl) (.ren rfl) (.cons (.tmp rfl) (.ren rfl) (.nil))))) (CallOk.mk' (.c rfl (.n)) rfl))<| ARun.nil _ _ _) ?_
      refine AWP.vc (s' := ⟨[(0,.own 1 2 0 y_11.length),(1,.sc (.int .i64 a1)),(2,.clo (.func 57) [] []),(6,.sc (.int .i64 (20 : Int))),(8,.sc (.int .i64 x_9.2.1))],[(1,⟨57,true,y_11.flatMap encR56⟩)]⟩) (VC.sub (.c (lenC (Eq.symm (Eq.symm ha_12)) rfl)<| .c rfl<| .c rfl<| .c rfl<| .c rfl<| .n _) (.c rfl<| .n _)) ?_
      refine AWP.seq ?_
      refine AWP.region (.cons (.move (lt1 rfl) (.tmp rfl))<| .cons (.assign (lt1 rfl) (.tmp rfl))<| ARun.nil _ _ _) ?_
      refine AWP.vc (s' := ⟨[(0,.own 1 2 0 y_11.length),(1,.sc (.int .i64 a1)),(2,.clo (.func 57) [] []),(6,.sc (.int .i64 (20 : Int))),(8,.sc (.int .i64 x_9.2.1)),(7,.sc (.int .i64 x_9.2.1))],[(1,⟨57,true,y_11.flatMap encR56⟩)]⟩) (VC.sub (.c rfl<| .c rfl<| .c rfl<| .c rfl<| .c rfl<| .c rfl<| .n _) (.c rfl<| .n _)) ?_
      obtain ⟨t8_13,ht8_13,h⟩ := letS h
      refine AWP.region (.cons (.move (lt1 rfl) (.tmp rfl))<| .cons (.move (lt1 rfl) (.tmp rfl))<| .cons (.add (lt1 rfl) (.tmp rfl) (.tmp rfl))<| .cons (.assign (lt1 rfl) (.tmp rfl))<| ARun.nil _ _ _) ?_
      exact endJ (x_9.2.1,t8_13,y_11) h (by subst ht8_13; exact VC.sub (.c rfl<| .c rfl<| .c rfl<| .c rfl<| .c rfl<| .c rfl<| .n _) (.c rfl<| .n _))
    · have h := iteF hc h
      refine AWP.exit ?_
      exact endJ (x_9.1,x_9.2.2) h (VC.sub (.c rfl<| .c rfl<| .c rfl<| .c rfl<| .c rfl<| .n _) (.c rfl<| .n _))
theorem c56 (n : Nat) (a0_b : (List R56)) {r : (List R56)} (h : m56 n a0_b = some r) : Spec Try.prog 56 [1] [.own 1 2 0 a0_b.length,.clo (.func 57) [] []] [(1,⟨57,true,a0_b.flatMap encR56⟩)] (.tup []) [(1,⟨57,true,r.flatMap encR56⟩)] := by
  refine Spec.of (fn := Try.f56) Try.func56 Try.ntmps56 rfl rfl (le1 rfl) (fun w0 Zs Zb T0 ι0 => ?_)
  unfold m56 at h
  obtain ⟨y_1,hy_1,h⟩ := bindS h
  obtain ⟨ha_2,h⟩ := asrtS h
  refine AWP.region (.cons (.move (lt1 rfl) (.tmp rfl))<| .cons (.move (lt1 rfl) (.tmp rfl))<| .cons (.lenOwn (lt1 rfl) (.tmp rfl) Try.underlying53)<| .cons (.move (lt1 rfl) (.tmp rfl))<| .cons (.call (σ := fun _ => 1) (bw := false) (lt1 rfl) (c65 n a0_b (a0_b.length : Int) hy_1) (.cons (.tmp rfl) (.ren rfl) (.cons (.tmp rfl) (.ren rfl) (.cons (.tmp rfl) (.ren rfl) (.nil)))) (CallOk.mk' (.c rfl (.n)) rfl))<| ARun.nil _ _ _) ?_
  obtain rfl := Option.some.inj h
  refine norJ (Res.vc (s' := ⟨[],[(1,⟨57,true,y_1.flatMap encR56⟩)]⟩) (VC.sub (.n _) (.c rfl<| .n _)) ?_)
  refine Res.sub (H := [(1,⟨57,true,y_1.flatMap encR56⟩)]) (.c rfl<| .n _) ?_
  exact Res.of rfl (.nil) rfl rfl
theorem c31 (n : Nat) (a0 : (List R56)) {r : (List R56)} (h : m31 n a0 = some r) : Spec Try.prog 31 [] [.rd false a0.length (a0.flatMap encR56)] [] (.rd false r.length (r.flatMap encR56)) [] := by
  refine Spec.of (fn := Try.f31) Try.func31 Try.ntmps31 rfl rfl (le1 rfl) (fun w0 Zs Zb T0 ι0 => ?_)
  unfold m31 at h
  refine AWP.seq ?_
  refine AWP.region (.cons (.assign (lt1 rfl) (.const _ _ _))<| ARun.nil _ _ _) ?_
  refine AWP.vc (s' := ⟨[(0,.rd false a0.length (a0.flatMap encR56))],[]⟩) (VC.sub (.c rfl<| .n _) (.n _)) ?_
  refine AWP.seq ?_
  refine AWP.region (.cons (.assign (lt1 rfl) (.const _ _ _))<| ARun.nil _ _ _) ?_
  refine AWP.vc (s' := ⟨[(0,.rd false a0.length (a0.flatMap encR56)),(3,.sc (.slice none 0 0))],[]⟩) (VC.sub (.c rfl<| .c rfl<| .n _) (.n _)) ?_
  refine AWP.seq ?_
  refine AWP.seq ?_
  refine AWP.region (.cons (.move (lt1 rfl) (.tmp rfl))<| .cons (.lenRd (lt1 rfl) (.tmp rfl) Try.underlying53)<| .cons (.move (lt1 rfl) (.const _ _ _))<| ARun.nil _ _ _) ?_
  refine AWP.vc (s' := ⟨[(3,.sc (.slice none 0 0)),(7,.rd false a0.length (a0.flatMap encR56)),(8,.sc (.int .i64 (a0.length : Int))),(9,.sc (.int .i64 (0 : Int)))],[]⟩) (VC.sub (.c rfl<| .c rfl<| .c rfl<| .c rfl<| .n _) (.n _)) ?_
  refine AWP.joinB' (S := fun p_35 : (List R56) => ⟨[(3,.own 1 2 0 p_35.length)],[(1,⟨57,true,p_35.flatMap encR56⟩)]⟩) h (fun p_35 h => ?_) (fun k_36 h => ?_)
  · refine AWP.seq ?_
    obtain ⟨y_37,hy_37,h⟩ := bindS h
    refine AWP.region (.cons (.move (lt1 rfl) (.tmp rfl))<| .cons (.call (σ := fun _ => 1) (bw := false) (lt1 rfl) (c54o n p_35 hy_37) (.cons (.tmp rfl) (.ren rfl) (.cons (.func _ _ _) (.ren rfl) (.nil))) (CallOk.mk' (.c rfl (.n)) rfl))<| .cons (.assign (lt1 rfl) (.tmp rfl))<| ARun.nil _ _ _) ?_
    refine AWP.vc (s' := ⟨[(3,.own 1 2 0 y_37.length)],[(1,⟨57,true,y_37.flatMap encR56⟩)]⟩) (VC.sub (.c rfl<| .n _) (.c rfl<| .n _)) ?_
    refine AWP.seq ?_
    obtain ⟨y_38,hy_38,h⟩ := bindS h
    obtain ⟨ha_39,h⟩ := asrtS h
    refine AWP.region (.cons (.move (lt1 rfl) (.tmp rfl))<| .cons (.call (σ := fun _ => 1) (bw := false) (lt1 rfl) (c56 n y_37 hy_38) (.cons (.tmp rfl) (.ren rfl) (.cons (.func _ _ _) (.ren rfl) (.nil))) (CallOk.mk' (.c rfl (.n)) rfl))<| ARun.nil _ _ _) ?_
    refine AWP.vc (s' := ⟨[(3,.own 1 2 0 y_38.length)],[(1,⟨57,true,y_38.flatMap encR56⟩)]⟩) (VC.sub (.c (lenC (Eq.symm (Eq.symm ha_39)) rfl)<| .n _) (.c rfl<| .n _)) ?_
    refine AWP.seq ?_
    refine AWP.region (.cons (.move (lt1 rfl) (.tmp rfl))<| .cons (.assign (lt1 rfl) (.tmp rfl))<| ARun.nil _ _ _) ?_
    refine AWP.ret ?_
    obtain rfl := Option.some.inj h
    refine retJ (Res.vc (s' := ⟨[(2,.rd false y_38.length (y_38.flatMap encR56))],[]⟩) (VC.trans (VC.frz (d := 2) (t := 1) rfl rfl encR56_len) (VC.sub (.c rfl<| .n _) (.n _))) ?_)
    refine Res.drop (H := []) rfl ?_
    exact Res.of rfl (.cons (.tmp rfl) (.nil)) rfl rfl
  · refine AWP.vc (VC.nilOwn (d := 3) (t := 1) (sz := 2) (E := 57) rfl (nm rfl)) ?_
    refine AWP.vc (s' := ⟨[(3,.own 1 2 0 ([] : List R56).length),(7,.rd false a0.length (a0.flatMap encR56)),(8,.sc (.int .i64 (a0.length : Int))),(9,.sc (.int .i64 (0 : Int)))],[(1,⟨57,true,([] : List R56).flatMap encR56⟩)]⟩) (VC.sub (.c rfl<| .c rfl<| .c rfl<| .c rfl<| .n _) (.c rfl<| .n _)) ?_
    refine AWP.loopM (S := fun x_23 : Int × (List R56) => ⟨[(3,.own 1 2 0 x_23.2.length),(7,.rd false a0.length (a0.flatMap encR56)),(8,.sc (.int .i64 (a0.length : Int))),(9,.sc (.int .i64 x_23.1))],[(1,⟨57,true,x_23.2.flatMap encR56⟩)]⟩) (x := ((0 : Int),([] : List R56))) (fun nx_24 x_23 h => ?_) h
    unfold m31_L1 at h
    refine AWP.seq ?_
    refine AWP.region (.cons (.lss (lt1 rfl) (.tmp rfl) (.tmp rfl))<| ARun.nil _ _ _) ?_
    refine AWP.vc (s' := ⟨[(3,.own 1 2 0 x_23.2.length),(7,.rd false a0.length (a0.flatMap encR56)),(8,.sc (.int .i64 (a0.length : Int))),(9,.sc (.int .i64 x_23.1)),(10,.sc (.bool (decide (x_23.1 < (a0.length : Int)))))],[(1,⟨57,true,x_23.2.flatMap encR56⟩)]⟩) (VC.sub (.c rfl<| .c rfl<| .c rfl<| .c rfl<| .c rfl<| .n _) (.c rfl<| .n _)) ?_
    refine AWP.seq ?_
    refine AWP.cond (.tmp rfl) (fun hc => ?_) (fun hc => ?_)
    · have h := iteT hc h
      refine AWP.skip ?_
      refine AWP.seq ?_
      refine AWP.block ?_
      refine AWP.seq ?_
      obtain ⟨y_25,hy_25,h⟩ := bindS h
      refine AWP.region (.cons (.indexRd (enc := encR56) (lt1 rfl) (.tmp rfl) (.tmp rfl) Try.underlying53 sz57 encR56_len rfl hy_25)<| .cons (.loadRA (out := [.rd false y_25.Pattern.length (y_25.Pattern.flatMap (encI .i64)),.sc (.int .i64 y_25.Count)]) (lt1 rfl) (.tmp rfl) agg57 (Nat.le_of_eq (Eq.symm (encR56_len _))) rfl)<| .cons (.alloc (t := 2) (k := ⟨57,false,[.sc (.slice none 0 0),.sc (.int .i64 (0 : Int))]⟩) (lt1 rfl) (nm rfl) zero57 rfl rfl)<| .cons (.storePA (.tmp rfl) (.tmp rfl) sz57 rfl rfl (le1 rfl) (one_lit rfl) (by intro h; cases h) rfl)<| ARun.nil _ _ _) ?_
      refine AWP.vc (s' := ⟨[(3,.own 1 2 0 x_23.2.length),(7,.rd false a0.length (a0.flatMap encR56)),(8,.sc (.int .i64 (a0.length : Int))),(9,.sc (.int .i64 x_23.1)),(5,.ptr 2 0)],[(2,⟨57,false,[.rd false y_25.Pattern.length (y_25.Pattern.flatMap (encI .i64)),.sc (.int .i64 y_25.Count)]⟩),(1,⟨57,true,x_23.2.flatMap encR56⟩)]⟩) (VC.sub (.c rfl<| .c rfl<| .c rfl<| .c rfl<| .c rfl<| .n _) (.c rfl<| .c rfl<| .n _)) ?_
      refine AWP.seq ?_
      obtain ⟨y_26,hy_26,h⟩ := bindS h
      refine AWP.region (.cons (.move (lt1 rfl) (.tmp rfl))<| .cons (.makeFunc (lt1 rfl) (.nil) (.cons (.tmp rfl) (.nil)))<| .cons (.keep (bw := true) (AStep.call (σ := fun _ => 2) (bw := true) (lt1 rfl) (c50 (β1 := true) (β2 := false) n x_23.2 y_25.Pattern y_25.Count hy_26) (.cons (.tmp rfl) (.lendRow rfl rfl encR56_len rfl) (.cons (.tmp rfl) (.ren rfl) (.nil))) (CallOk.mk' (.c rfl (.n)) rfl)) (CallOk.mk' (.c rfl (.n)) rfl) rfl rfl)<| .cons (.assign (lt1 rfl) (.tmp rfl))<| ARun.nil _ _ _) ?_
      refine AWP.vc (s' := ⟨[(3,.own 1 2 0 x_23.2.length),(7,.rd false a0.length (a0.flatMap encR56)),(8,.sc (.int .i64 (a0.length : Int))),(9,.sc (.int .i64 x_23.1)),(5,.ptr 2 0),(6,.sc (.int .i64 y_26))],[(2,⟨57,false,[.rd false y_25.Pattern.length (y_25.Pattern.flatMap (encI .i64)),.sc (.int .i64 y_25.Count)]⟩),(1,⟨57,true,x_23.2.flatMap encR56⟩)]⟩) (VC.sub (.c rfl<| .c rfl<| .c rfl<| .c rfl<| .c rfl<| .c rfl<| .n _) (.c rfl<| .c rfl<| .n _)) ?_
      refine AWP.seq ?_
      refine AWP.region (.cons (.move (lt1 rfl) (.tmp rfl))<| .cons (.geq (lt1 rfl) (.tmp rfl) (.const _ _ _))<| ARun.nil _ _ _) ?_
      refine AWP.vc (s' := ⟨[(3,.own 1 2 0 x_23.2.length),(7,.rd false a0.length (a0.flatMap encR56)),(8,.sc (.int .i64 (a0.length : Int))),(9,.sc (.int .i64 x_23.1)),(5,.ptr 2 0),(6,.sc (.int .i64 y_26)),(17,.sc (.bool (decide ((0 : Int) ≤ y_26))))],[(2,⟨57,false,[.rd false y_25.Pattern.length (y_25.Pattern.flatMap (encI .i64)),.sc (.int .i64 y_25.Count)]⟩),(1,⟨57,true,x_23.2.flatMap encR56⟩)]⟩) (VC.sub (.c rfl<| .c rfl<| .c rfl<| .c rfl<| .c rfl<| .c rfl<| .c rfl<| .n _) (.c rfl<| .c rfl<| .n _)) ?_
      refine AWP.join' (S := fun p_32 : (List R56) => ⟨[(3,.own 1 2 0 p_32.length),(7,.rd false a0.length (a0.flatMap encR56)),(8,.sc (.int .i64 (a0.length : Int))),(9,.sc (.int .i64 x_23.1))],[(1,⟨57,true,p_32.flatMap encR56⟩)]⟩) h (fun p_32 h => ?_) (fun k_33 h => ?_)
      · obtain ⟨t9_34,ht9_34,h⟩ := letS h
        refine AWP.region (.cons (.add (lt1 rfl) (.tmp rfl) (.const _ _ _))<| .cons (.move (lt1 rfl) (.tmp rfl))<| ARun.nil _ _ _) ?_
        exact endJ (t9_34,p_32) h (by subst ht9_34; exact VC.sub (.c rfl<| .c rfl<| .c rfl<| .c rfl<| .n _) (.c rfl<| .n _))
      · refine AWP.cond (.tmp rfl) (fun hc => ?_) (fun hc => ?_)
        · have h := iteT hc h
          obtain ⟨y_27,hy_27,h⟩ := bindS h
          obtain ⟨y_28,hy_28,h⟩ := bindS h
          obtain ⟨l1_29,hl1_29,h⟩ := bindS h
          refine AWP.draw (s' := ⟨[(3,.own 1 2 0 x_23.2.length),(7,.rd false a0.length (a0.flatMap encR56)),(8,.sc (.int .i64 (a0.length : Int))),(9,.sc (.int .i64 x_23.1))],[(2,⟨57,false,[.rd false y_25.Pattern.length (y_25.Pattern.flatMap (encI .i64)),.sc (.int .i64 y_25.Count)]⟩),(1,⟨57,true,l1_29.flatMap encR56⟩)]⟩) mixed [⟨3,.own 1 2 0 x_23.2.length,none,[]⟩,⟨5,.ptr 2 0,none,[]⟩,⟨6,.sc (.int .i64 y_26),none,[]⟩,⟨7,.rd false a0.length (a0.flatMap encR56),none,[]⟩,⟨8,.sc (.int .i64 (a0.length : Int)),none,[]⟩,⟨9,.sc (.int .i64 x_23.1),none,[]⟩,⟨17,.sc (.bool (decide ((0 : Int) ≤ y_26))),none,[]⟩,⟨18,.own 1 2 0 x_23.2.length,some 0,[]⟩,⟨19,.sc (.int .i64 y_26),some 1,[]⟩,⟨20,.ptr 1 (0 + (y_26).toNat * 2),some 2,[]⟩,⟨21,.ptr 1 ((0 + (y_26).toNat * 2) + 1),some 3,[]⟩,⟨22,.sc (.int .i64 y_27.Count),some 4,[]⟩,⟨23,.ptr 2 (0 + 1),some 5,[]⟩,⟨24,.sc (.int .i64 y_25.Count),some 6,[]⟩,⟨25,.sc (.int .i64 (IntKind.wrap .i64 (y_27.Count + y_25.Count))),some 7,[]⟩,⟨26,.ptr 1 (0 + (y_26).toNat * 2),some 8,[]⟩,⟨27,.ptr 1 ((0 + (y_26).toNat * 2) + 1),some 9,[]⟩] [⟨[0],0,0,some (18,.own 1 2 0 x_23.2.length),[]⟩,⟨[2],0,1,some (19,.sc (.int .i64 y_26)),[]⟩,⟨[7,8],0,0,some (20,.ptr 1 (0 + (y_26).toNat * 2)),[]⟩,⟨[9],0,0,some (21,.ptr 1 ((0 + (y_26).toNat * 2) + 1)),[]⟩,⟨[10],0,0,some (22,.sc (.int .i64 y_27.Count)),[]⟩,⟨[1],0,0,some (23,.ptr 2 (0 + 1)),[]⟩,⟨[12],0,0,some (24,.sc (.int .i64 y_25.Count)),[]⟩,⟨[11,13],0,1,some (25,.sc (.int .i64 (IntKind.wrap .i64 (y_27.Count + y_25.Count)))),[]⟩,⟨[7,8],0,0,some (26,.ptr 1 (0 + (y_26).toNat * 2)),[]⟩,⟨[15],0,0,some (27,.ptr 1 ((0 + (y_26).toNat * 2) + 1)),[]⟩,⟨[16,14],0,0,none,[]⟩] [10] [[(2,⟨57,false,[.rd false y_25.Pattern.length (y_25.Pattern.flatMap (encI .i64)),.sc (.int .i64 y_25.Count)]⟩),(1,⟨57,true,x_23.2.flatMap encR56⟩)],[(2,⟨57,false,[.rd false y_25.Pattern.length (y_25.Pattern.flatMap (encI .i64)),.sc (.int .i64 y_25.Count)]⟩),(1,⟨57,true,l1_29.flatMap encR56⟩)]] [[],[],[0,1],[0,1,2],[0,1,2,3],[],[5],[0,1,2,3,4,5,6],[0,1,2,3,4,5,6,7],[0,1,2,3,4,5,6,7,8],[0,1,2,3,4,5,6,7,8,9]] (by kernel_rfl) (by kernel_rfl) (BornL.ok (.o<| .o<| .o<| .o<| .o<| .o<| .o<| .b rfl rfl<| .b rfl rfl<| .b rfl rfl<| .b rfl rfl<| .b rfl rfl<| .b rfl rfl<| .b rfl rfl<| .b rfl rfl<| .b rfl rfl<| .b rfl rfl<| .n)) (BaseL.ok (.o rfl<| .o rfl<| .o rfl<| .o rfl<| .o rfl<| .o rfl<| .o rfl<| .b<| .b<| .b<| .b<| .b<| .b<| .b<| .b<| .b<| .b<| .n)) rfl (by decide) (allLt rfl) (.read rfl (.c (.put (fun E hE => .move (lt1 rfl) (.tmp (hE.at (k := 0) rfl)))) (.n))<| .pure rfl (fun H => .put (fun E hE => .move (lt1 rfl) (.tmp (hE.at (k := 0) rfl))))<| .read rfl (.c (.put (fun E hE => .idxOwn (lt1 rfl) (.tmp (hE.at (k := 0) rfl)) (.tmp (hE.at (k := 1) rfl)) Try.underlying53 sz57 rfl hy_27)) (.n))<| .read rfl (.c (.put (fun E hE => .fieldP (lt1 rfl) (.tmp (hE.at (k := 0) rfl)) fld57_1)) (.n))<| .read rfl (.c (.put (fun E hE => .loadP (lt1 rfl) (.tmp (hE.at (k := 0) rfl)) one3 rfl (cell_at encR56_len hy_27 (lt1 rfl)) rfl)) (.n))<| .read rfl (.c (.put (fun E hE => .fieldP (lt1 rfl) (.tmp (hE.at (k := 0) rfl)) fld57_1)) (.n))<| .read rfl (.c (.put (fun E hE => .loadP (lt1 rfl) (.tmp (hE.at (k := 0) rfl)) one3 rfl rfl rfl)) (.n))<| .pure rfl (fun H => .put (fun E hE => .add (lt1 rfl) (.tmp (hE.at (k := 0) rfl)) (.tmp (hE.at (k := 1) rfl))))<| .read rfl (.c (.put (fun E hE => .idxOwn (lt1 rfl) (.tmp (hE.at (k := 0) rfl)) (.tmp (hE.at (k := 1) rfl)) Try.underlying53 sz57 rfl hy_28)) (.n))<| .read rfl (.c (.put (fun E hE => .fieldP (lt1 rfl) (.tmp (hE.at (k := 0) rfl)) fld57_1)) (.n))<| .turn rfl rfl rfl rfl rfl (.store (fun E hE => .storeP (.tmp (hE.at (k := 0) rfl)) (.tmp (hE.at (k := 1) rfl)) sz3 rfl (lt_at encR56_len hy_28 (lt1 rfl)) rfl (fun _ => rfl) (set_at encR56_len hy_28 hl1_29 (lt1 rfl) rfl)) rfl)<| .nil _) (fun E hE => .c (DInv.at hE (k := 0) rfl rfl rfl)<| .c (DInv.at hE (k := 3) rfl rfl rfl)<| .c (DInv.at hE (k := 4) rfl rfl rfl)<| .c (DInv.at hE (k := 5) rfl rfl rfl)<| .n _) rfl ?_
          exact endJ l1_29 h (VC.sub (.c (lenC (Eq.symm (setLen hl1_29)) rfl)<| .c rfl<| .c rfl<| .c rfl<| .n _) (.c rfl<| .n _))
        · have h := iteF hc h
          obtain ⟨y_30,hy_30,h⟩ := bindS h
          obtain ⟨l1_31,hl1_31,h⟩ := bindS h
          refine AWP.draw (s' := ⟨[(3,.own 1 2 0 l1_31.length),(7,.rd false a0.length (a0.flatMap encR56)),(8,.sc (.int .i64 (a0.length : Int))),(9,.sc (.int .i64 x_23.1))],[(1,⟨57,true,l1_31.flatMap encR56⟩),(2,⟨57,false,[.rd false y_25.Pattern.length (y_25.Pattern.flatMap (encI .i64)),.sc (.int .i64 y_25.Count)]⟩)]⟩) mixed [⟨3,.own 1 2 0 x_23.2.length,none,[8,9]⟩,⟨5,.ptr 2 0,none,[]⟩,⟨6,.sc (.int .i64 y_26),none,[]⟩,⟨7,.rd false a0.length (a0.flatMap encR56),none,[]⟩,⟨8,.sc (.int .i64 (a0.length : Int)),none,[]⟩,⟨9,.sc (.int .i64 x_23.1),none,[]⟩,⟨17,.sc (.bool (decide ((0 : Int) ≤ y_26))),none,[]⟩,⟨28,.own 1 2 0 x_23.2.length,some 0,[8]⟩,⟨29,.ptr 2 (0 + 0),some 1,[]⟩,⟨30,.rd false y_25.Pattern.length (y_25.Pattern.flatMap (encI .i64)),some 2,[]⟩,⟨31,.rd false y_30.length (y_30.flatMap (encI .i64)),some 3,[]⟩,⟨32,.ptr 2 (0 + 1),some 4,[]⟩,⟨33,.sc (.int .i64 y_25.Count),some 5,[]⟩,⟨34,.agg [.rd false y_30.length (y_30.flatMap (encI .i64)),.sc (.int .i64 y_25.Count)],some 6,[]⟩,⟨35,.rd false ([(R56.mk y_30 y_25.Count)] : List R56).length (([(R56.mk y_30 y_25.Count)] : List R56).flatMap encR56),some 7,[]⟩,⟨36,.own 1 2 0 l1_31.length,some 8,[]⟩,⟨3,.own 1 2 0 l1_31.length,some 9,[]⟩] [⟨[0],0,0,some (28,.own 1 2 0 x_23.2.length),[]⟩,⟨[1],0,0,some (29,.ptr 2 (0 + 0)),[]⟩,⟨[8],0,0,some (30,.rd false y_25.Pattern.length (y_25.Pattern.flatMap (encI .i64))),[]⟩,⟨[9],0,1,some (31,.rd false y_30.length (y_30.flatMap (encI .i64))),[]⟩,⟨[1],0,0,some (32,.ptr 2 (0 + 1)),[]⟩,⟨[11],0,0,some (33,.sc (.int .i64 y_25.Count)),[]⟩,⟨[10,12],0,1,some (34,.agg [.rd false y_30.length (y_30.flatMap (encI .i64)),.sc (.int .i64 y_25.Count)]),[]⟩,⟨[13],0,1,some (35,.rd false ([(R56.mk y_30 y_25.Count)] : List R56).length (([(R56.mk y_30 y_25.Count)] : List R56).flatMap encR56)),[]⟩,⟨[7,14],0,0,some (36,.own 1 2 0 l1_31.length),[1]⟩,⟨[15],1,1,some (3,.own 1 2 0 l1_31.length),[]⟩] [8] [[(2,⟨57,false,[.rd false y_25.Pattern.length (y_25.Pattern.flatMap (encI .i64)),.sc (.int .i64 y_25.Count)]⟩),(1,⟨57,true,x_23.2.flatMap encR56⟩)],[(1,⟨57,true,l1_31.flatMap encR56⟩),(2,⟨57,false,[.rd false y_25.Pattern.length (y_25.Pattern.flatMap (encI .i64)),.sc (.int .i64 y_25.Count)]⟩)]] [[],[],[1],[1,2],[],[4],[1,2,3,4,5],[1,2,3,4,5,6],[0,1,2,3,4,5,6,7],[0,1,2,3,4,5,6,7,8]] (by kernel_rfl) (by kernel_rfl) (BornL.ok (.o<| .o<| .o<| .o<| .o<| .o<| .o<| .b rfl rfl<| .b rfl rfl<| .b rfl rfl<| .b rfl rfl<| .b rfl rfl<| .b rfl rfl<| .b rfl rfl<| .b rfl rfl<| .b rfl rfl<| .b rfl rfl<| .n)) (BaseL.ok (.o rfl<| .o rfl<| .o rfl<| .o rfl<| .o rfl<| .o rfl<| .o rfl<| .b<| .b<| .b<| .b<| .b<| .b<| .b<| .b<| .b<| .b<| .n)) rfl (by decide) (allLt rfl) (.read rfl (.c (.put (fun E hE => .move (lt1 rfl) (.tmp (hE.at (k := 0) rfl)))) (.n))<| .read rfl (.c (.put (fun E hE => .fieldP (lt1 rfl) (.tmp (hE.at (k := 0) rfl)) fld57_0)) (.n))<| .read rfl (.c (.put (fun E hE => .loadP (lt1 rfl) (.tmp (hE.at (k := 0) rfl)) one22 rfl rfl rfl)) (.n))<| .pure rfl (fun H => .put (fun E hE => .call0 (bw := false) (lt1 rfl) (c53 (β1 := false) n y_25.Pattern hy_30) (.cons (.tmp (hE.at (k := 0) rfl)) (.ren rfl) (.nil)) rfl))<| .read rfl (.c (.put (fun E hE => .fieldP (lt1 rfl) (.tmp (hE.at (k := 0) rfl)) fld57_1)) (.n))<| .read rfl (.c (.put (fun E hE => .loadP (lt1 rfl) (.tmp (hE.at (k := 0) rfl)) one3 rfl rfl rfl)) (.n))<| .pure rfl (fun H => .put (fun E hE => .buildO (offs := [(0,1),(1,1)]) (lt1 rfl) (.cons (.tmp (hE.at (k := 0) rfl)) (by first | exact ⟨rfl,rfl⟩ | rfl) (.cons (.tmp (hE.at (k := 1) rfl)) (by first | exact ⟨rfl,rfl⟩ | rfl) (.nil))) zero57 offs57 rfl))<| .pure rfl (fun H => .put (fun E hE => .frzAny (fun t ht => AStep.buildSlice (t := t) (out := ([(R56.mk y_30 y_25.Count)] : List R56).flatMap encR56) (lt1 rfl) ht (.cons (.tmp (hE.at (k := 0) rfl)) (by first | exact ⟨rfl,rfl⟩ | rfl) (.nil)) Try.underlying53 zero57 el57 (by decide) (by decide) rfl (still_all encR56_still _)) rfl encR56_len))<| .turn rfl rfl rfl rfl rfl (.new (fun E hE => .app (enc := encR56) (lt1 rfl) (nm rfl) (.tmp (hE.at (k := 0) rfl)) (Src.rd (.tmp (hE.at (k := 1) rfl)) (flatMap_length encR56_len _) (one_all encR56_one _) (.inl rfl)) Try.underlying53 ⟨_,Try.underlying53,by intro k hk; cases hk⟩ el57 rfl encR56_len rfl rfl (by decide) hl1_31) rfl)<| .read rfl (.c (.put (fun E hE => .assign (lt1 rfl) (.tmp (hE.at (k := 0) rfl)))) (.n))<| .nil _) (fun E hE => .c (DInv.at hE (k := 16) rfl rfl rfl)<| .c (DInv.at hE (k := 3) rfl rfl rfl)<| .c (DInv.at hE (k := 4) rfl rfl rfl)<| .c (DInv.at hE (k := 5) rfl rfl rfl)<| .n _) rfl ?_
          exact endJ l1_31 h (VC.sub (.c rfl<| .c rfl<| .c rfl<| .c rfl<| .n _) (.c rfl<| .n _))
    · have h := iteF hc h
      refine AWP.exit ?_
      exact endJ x_23.2 h (VC.sub (.c rfl<| .n _) (.c rfl<| .n _))
theorem c67 {β1 : Bool} {β2 : Bool} {β3 : Bool} (n : Nat) (a0 : R56) (a1_b0 : (List Int)) (a1_b1 : (List Int)) (a1_b2 : Int) (a1_b3 : Int) {r : Bool} (h : m67 n a0 a1_b0 a1_b1 a1_b2 a1_b3 = some r) : Spec Try.prog 67 [1] [.agg [.rd β1 a0.Pattern.length (a0.Pattern.flatMap (encI .i64)),.sc (.int .i64 a0.Count)],.ptr 1 0] [(1,⟨32,false,[.rd β2 a1_b0.length (a1_b0.flatMap (encI .i64)),.rd β3 a1_b1.length (a1_b1.flatMap (encI .i64)),.sc (.int .i64 a1_b2),.sc (.int .i64 a1_b3)]⟩)] (.sc (.bool r)) [(1,⟨32,false,[.rd β2 a1_b0.length (a1_b0.flatMap (encI .i64)),.rd β3 a1_b1.length (a1_b1.flatMap (encI .i64)),.sc (.int .i64 a1_b2),.sc (.int .i64 a1_b3)]⟩)] := by
  refine Spec.of (fn := Try.f67) Try.func67 Try.ntmps67 rfl rfl (le1 rfl) (fun w0 Zs Zb T0 ι0 => ?_)
  unfold m67 at h
  refine AWP.seq ?_
  refine AWP.region (.cons (.box (t := 2) (n := 2) (lt1 rfl) (nm rfl) (.tmp rfl) (by first | exact ⟨rfl,rfl⟩ | rfl) rfl)<| .cons (.assign (lt1 rfl) (.const _ _ _))<| ARun.nil _ _ _) ?_
  refine AWP.vc (s' := ⟨[(1,.ptr 1 0),(2,.ptr 2 0)],[(2,⟨57,false,[.rd β1 a0.Pattern.length (a0.Pattern.flatMap (encI .i64)),.sc (.int .i64 a0.Count)]⟩),(1,⟨32,false,[.rd β2 a1_b0.length (a1_b0.flatMap (encI .i64)),.rd β3 a1_b1.length (a1_b1.flatMap (encI .i64)),.sc (.int .i64 a1_b2),.sc (.int .i64 a1_b3)]⟩)]⟩) (VC.sub (.c rfl<| .c rfl<| .n _) (.c rfl<| .c rfl<| .n _)) ?_
  refine AWP.seq ?_
  obtain ⟨y_1,hy_1,h⟩ := bindS h
  refine AWP.region (.cons (.fieldP (lt1 rfl) (.tmp rfl) fld57_1)<| .cons (.loadP (lt1 rfl) (.tmp rfl) one3 rfl rfl rfl)<| .cons (.lss (lt1 rfl) (.tmp rfl) (.const _ _ _))<| .cons (.move (lt1 rfl) (.tmp rfl))<| .guard (j := 3) (dj := 7) rfl (lt1 rfl) rfl (lt1 rfl) (fun hg => .fieldP (lt1 rfl) (.tmp rfl) fld57_1)<| .guard (j := 3) (dj := 7) rfl (lt1 rfl) rfl (lt1 rfl) (fun hg => .loadP (lt1 rfl) (.gd hg (.tmp rfl)) one3 rfl rfl rfl)<| .guard (j := 3) (dj := 7) rfl (lt1 rfl) rfl (lt1 rfl) (fun hg => .gtr (lt1 rfl) (.gd hg (.tmp rfl)) (.const _ _ _))<| .cons (.pickOr (lt1 rfl) (.tmp rfl) (.const _ _ _) (.tmp rfl))<| .cons (.move (lt1 rfl) (.tmp rfl))<| .guard (j := 8) (dj := 12) rfl (lt1 rfl) rfl (lt1 rfl) (fun hg => .loadPA (lt1 rfl) (.tmp rfl) agg32 rfl rfl rfl rfl)<| .guard (j := 8) (dj := 12) rfl (lt1 rfl) rfl (lt1 rfl) (fun hg => .fieldP (lt1 rfl) (.tmp rfl) fld57_0)<| .guard (j := 8) (dj := 12) rfl (lt1 rfl) rfl (lt1 rfl) (fun hg => .loadP (lt1 rfl) (.gd hg (.tmp rfl)) one22 rfl rfl rfl)<| .guard (j := 8) (dj := 12) rfl (lt1 rfl) rfl (lt1 rfl) (fun hg => .call0 (bw := false) (lt1 rfl) (c26 (β1 := β2) (β2 := β3) (β3 := β1) n (R23.mk a1_b0 a1_b1 a1_b2 a1_b3) a0.Pattern (gdB hy_1 hg)) (.cons (.gd hg (.tmp rfl)) (.ren rfl) (.cons (.gd hg (.tmp rfl)) (.ren rfl) (.nil))) rfl)<| .guard (j := 8) (dj := 12) rfl (lt1 rfl) rfl (lt1 rfl) (fun hg => .not (lt1 rfl) (.gd hg (.tmp rfl)))<| .cons (.pickOr (lt1 rfl) (.tmp rfl) (.const _ _ _) (.tmp rfl))<| .cons (.assign (lt1 rfl) (.tmp rfl))<| ARun.nil _ _ _) ?_
  refine AWP.ret ?_
  obtain rfl := Option.some.inj h
  refine retJ (Res.vc (s' := ⟨[(3,.sc (.bool (((decide (a0.Count < (1 : Int))) || (decide ((1000 : Int) < a0.Count))) || (!y_1))))],[(1,⟨32,false,[.rd β2 a1_b0.length (a1_b0.flatMap (encI .i64)),.rd β3 a1_b1.length (a1_b1.flatMap (encI .i64)),.sc (.int .i64 a1_b2),.sc (.int .i64 a1_b3)]⟩)]⟩) (VC.sub (.c rfl<| .n _) (.c rfl<| .n _)) ?_)
  refine Res.sub (H := [(1,⟨32,false,[.rd β2 a1_b0.length (a1_b0.flatMap (encI .i64)),.rd β3 a1_b1.length (a1_b1.flatMap (encI .i64)),.sc (.int .i64 a1_b2),.sc (.int .i64 a1_b3)]⟩)]) (.c rfl<| .n _) ?_
  exact Res.of rfl (.cons (.tmp rfl) (.nil)) rfl rfl
theorem c50x2 {β1 : Bool} {β2 : Bool} {β3 : Bool} (n : Nat) (a0 : (List R56)) (a1_0_b0 : (List Int)) (a1_0_b1 : (List Int)) (a1_0_b2 : Int) (a1_0_b3 : Int) {r : Int} (h : m50x2 n a0 a1_0_b0 a1_0_b1 a1_0_b2 a1_0_b3 = some r) : Spec Try.prog 50 [1] [.rd β1 a0.length (a0.flatMap encR56),.clo (.func 67) [] [.ptr 1 0]] [(1,⟨32,false,[.rd β2 a1_0_b0.length (a1_0_b0.flatMap (encI .i64)),.rd β3 a1_0_b1.length (a1_0_b1.flatMap (encI .i64)),.sc (.int .i64 a1_0_b2),.sc (.int .i64 a1_0_b3)]⟩)] (.sc (.int .i64 r)) [(1,⟨32,false,[.rd β2 a1_0_b0.length (a1_0_b0.flatMap (encI .i64)),.rd β3 a1_0_b1.length (a1_0_b1.flatMap (encI .i64)),.sc (.int .i64 a1_0_b2),.sc (.int .i64 a1_0_b3)]⟩)] := by
  refine Spec.of (fn := Try.f50) Try.func50 Try.ntmps50 rfl rfl (le1 rfl) (fun w0 Zs Zb T0 ι0 => ?_)
  unfold m50x2 at h
  refine AWP.seq ?_
  refine AWP.region (.cons (.assign (lt1 rfl) (.const _ _ _))<| ARun.nil _ _ _) ?_
  refine AWP.vc (s' := ⟨[(0,.rd β1 a0.length (a0.flatMap encR56)),(1,.clo (.func 67) [] [.ptr 1 0])],[(1,⟨32,false,[.rd β2 a1_0_b0.length (a1_0_b0.flatMap (encI .i64)),.rd β3 a1_0_b1.length (a1_0_b1.flatMap (encI .i64)),.sc (.int .i64 a1_0_b2),.sc (.int .i64 a1_0_b3)]⟩)]⟩) (VC.sub (.c rfl<| .c rfl<| .n _) (.c rfl<| .n _)) ?_
  refine AWP.seq ?_
  refine AWP.seq ?_
  refine AWP.region (.cons (.move (lt1 rfl) (.tmp rfl))<| .cons (.lenRd (lt1 rfl) (.tmp rfl) Try.underlying53)<| .cons (.move (lt1 rfl) (.const _ _ _))<| ARun.nil _ _ _) ?_
  refine AWP.vc (s' := ⟨[(0,.rd β1 a0.length (a0.flatMap encR56)),(1,.clo (.func 67) [] [.ptr 1 0]),(7,.sc (.int .i64 (a0.length : Int))),(8,.sc (.int .i64 (0 : Int)))],[(1,⟨32,false,[.rd β2 a1_0_b0.length (a1_0_b0.flatMap (encI .i64)),.rd β3 a1_0_b1.length (a1_0_b1.flatMap (encI .i64)),.sc (.int .i64 a1_0_b2),.sc (.int .i64 a1_0_b3)]⟩)]⟩) (VC.sub (.c rfl<| .c rfl<| .c rfl<| .c rfl<| .n _) (.c rfl<| .n _)) ?_
  refine AWP.joinB' (S := fun p_10 : Unit => ⟨[],[(1,⟨32,false,[.rd β2 a1_0_b0.length (a1_0_b0.flatMap (encI .i64)),.rd β3 a1_0_b1.length (a1_0_b1.flatMap (encI .i64)),.sc (.int .i64 a1_0_b2),.sc (.int .i64 a1_0_b3)]⟩)]⟩) h (fun p_10 h => ?_) (fun k_11 h => ?_)
  · refine AWP.seq ?_
    refine AWP.region (.cons (.assign (lt1 rfl) (.const _ _ _))<| ARun.nil _ _ _) ?_
    refine AWP.ret ?_
    obtain rfl := Option.some.inj h
    refine retJ (Res.vc (s' := ⟨[(4,.sc (.int .i64 (-1 : Int)))],[(1,⟨32,false,[.rd β2 a1_0_b0.length (a1_0_b0.flatMap (encI .i64)),.rd β3 a1_0_b1.length (a1_0_b1.flatMap (encI .i64)),.sc (.int .i64 a1_0_b2),.sc (.int .i64 a1_0_b3)]⟩)]⟩) (VC.sub (.c rfl<| .n _) (.c rfl<| .n _)) ?_)
    refine Res.sub (H := [(1,⟨32,false,[.rd β2 a1_0_b0.length (a1_0_b0.flatMap (encI .i64)),.rd β3 a1_0_b1.length (a1_0_b1.flatMap (encI .i64)),.sc (.int .i64 a1_0_b2),.sc (.int .i64 a1_0_b3)]⟩)]) (.c rfl<| .n _) ?_
    exact Res.of rfl (.cons (.tmp rfl) (.nil)) rfl rfl
  · refine AWP.vc (s' := ⟨[(0,.rd β1 a0.length (a0.flatMap encR56)),(1,.clo (.func 67) [] [.ptr 1 0]),(7,.sc (.int .i64 (a0.length : Int))),(8,.sc (.int .i64 (0 : Int)))],[(1,⟨32,false,[.rd β2 a1_0_b0.length (a1_0_b0.flatMap (encI .i64)),.rd β3 a1_0_b1.length (a1_0_b1.flatMap (encI .i64)),.sc (.int .i64 a1_0_b2),.sc (.int .i64 a1_0_b3)]⟩)]⟩) (VC.sub (.c rfl<| .c rfl<| .c rfl<| .c rfl<| .n _) (.c rfl<| .n _)) ?_
    refine AWP.loopM (S := fun x_5 : Int => ⟨[(0,.rd β1 a0.length (a0.flatMap encR56)),(1,.clo (.func 67) [] [.ptr 1 0]),(7,.sc (.int .i64 (a0.length : Int))),(8,.sc (.int .i64 x_5))],[(1,⟨32,false,[.rd β2 a1_0_b0.length (a1_0_b0.flatMap (encI .i64)),.rd β3 a1_0_b1.length (a1_0_b1.flatMap (encI .i64)),.sc (.int .i64 a1_0_b2),.sc (.int .i64 a1_0_b3)]⟩)]⟩) (x := (0 : Int)) (fun nx_6 x_5 h => ?_) h
    unfold m50x2_L1 at h
    refine AWP.seq ?_
    refine AWP.region (.cons (.lss (lt1 rfl) (.tmp rfl) (.tmp rfl))<| ARun.nil _ _ _) ?_
    refine AWP.vc (s' := ⟨[(0,.rd β1 a0.length (a0.flatMap encR56)),(1,.clo (.func 67) [] [.ptr 1 0]),(7,.sc (.int .i64 (a0.length : Int))),(8,.sc (.int .i64 x_5)),(9,.sc (.bool (decide (x_5 < (a0.length : Int)))))],[(1,⟨32,false,[.rd β2 a1_0_b0.length (a1_0_b0.flatMap (encI .i64)),.rd β3 a1_0_b1.length (a1_0_b1.flatMap (encI .i64)),.sc (.int .i64 a1_0_b2),.sc (.int .i64 a1_0_b3)]⟩)]⟩) (VC.sub (.c rfl<| .c rfl<| .c rfl<| .c rfl<| .c rfl<| .n _) (.c rfl<| .n _)) ?_
    refine AWP.seq ?_
    refine AWP.cond (.tmp rfl) (fun hc => ?_) (fun hc => ?_)
    · have h := iteT hc h
      refine AWP.skip ?_
      refine AWP.seq ?_
      refine AWP.block ?_
      refine AWP.seq ?_
      refine AWP.region (.cons (.move (lt1 rfl) (.tmp rfl))<| .cons (.assign (lt1 rfl) (.tmp rfl))<| ARun.nil _ _ _) ?_
      refine AWP.vc (s' := ⟨[(0,.rd β1 a0.length (a0.flatMap encR56)),(1,.clo (.func 67) [] [.ptr 1 0]),(7,.sc (.int .i64 (a0.length : Int))),(8,.sc (.int .i64 x_5)),(5,.sc (.int .i64 x_5))],[(1,⟨32,false,[.rd β2 a1_0_b0.length (a1_0_b0.flatMap (encI .i64)),.rd β3 a1_0_b1.length (a1_0_b1.flatMap (encI .i64)),.sc (.int .i64 a1_0_b2),.sc (.int .i64 a1_0_b3)]⟩)]⟩) (VC.sub (.c rfl<| .c rfl<| .c rfl<| .c rfl<| .c rfl<| .n _) (.c rfl<| .n _)) ?_
      refine AWP.seq ?_
      obtain ⟨y_7,hy_7,h⟩ := bindS h
      obtain ⟨y_8,hy_8,h⟩ := bindS h
      refine AWP.region (.cons (.move (lt1 rfl) (.tmp rfl))<| .cons (.move (lt1 rfl) (.tmp rfl))<| .cons (.move (lt1 rfl) (.tmp rfl))<| .cons (.indexRd (enc := encR56) (lt1 rfl) (.tmp rfl) (.tmp rfl) Try.underlying53 sz57 encR56_len rfl hy_7)<| .cons (.loadRA (out := [.rd β1 y_7.Pattern.length (y_7.Pattern.flatMap (encI .i64)),.sc (.int .i64 y_7.Count)]) (lt1 rfl) (.tmp rfl) agg57 (Nat.le_of_eq (Eq.symm (encR56_len _))) rfl)<| .cons (.keep (bw := false) (AStep.callV (us' := []) (avs := [.agg [.rd β1 ((R56.mk y_7.Pattern y_7.Count).Pattern).length (((R56.mk y_7.Pattern y_7.Count).Pattern).flatMap (encI .i64)),.sc (.int .i64 ((R56.mk y_7.Pattern y_7.Count).Count))]]) (cs' := [.ptr 1 0]) (σ := fun _ => 1) (bw := false) (lt1 rfl) (.tmp rfl) (c67 (β1 := β1) (β2 := β2) (β3 := β3) n (R56.mk y_7.Pattern y_7.Count) a1_0_b0 a1_0_b1 a1_0_b2 a1_0_b3 hy_8) (.nil) (.cons (.tmp rfl) (.ren rfl) (.nil)) (.cons (.ren rfl) (.nil)) (CallOk.mk' (.c rfl (.n)) rfl) (fun _ h => by cases h)) (CallOk.mk' (.c rfl (.n)) rfl) rfl rfl)<| ARun.nil _ _ _) ?_
      refine AWP.vc (s' := ⟨[(0,.rd β1 a0.length (a0.flatMap encR56)),(1,.clo (.func 67) [] [.ptr 1 0]),(7,.sc (.int .i64 (a0.length : Int))),(8,.sc (.int .i64 x_5)),(5,.sc (.int .i64 x_5)),(16,.sc (.bool y_8))],[(1,⟨32,false,[.rd β2 a1_0_b0.length (a1_0_b0.flatMap (encI .i64)),.rd β3 a1_0_b1.length (a1_0_b1.flatMap (encI .i64)),.sc (.int .i64 a1_0_b2),.sc (.int .i64 a1_0_b3)]⟩)]⟩) (VC.sub (.c rfl<| .c rfl<| .c rfl<| .c rfl<| .c rfl<| .c rfl<| .n _) (.c rfl<| .n _)) ?_
      refine AWP.cond (.tmp rfl) (fun hc => ?_) (fun hc => ?_)
      · have h := iteT hc h
        refine AWP.seq ?_
        refine AWP.region (.cons (.move (lt1 rfl) (.tmp rfl))<| .cons (.assign (lt1 rfl) (.tmp rfl))<| ARun.nil _ _ _) ?_
        refine AWP.ret ?_
        obtain rfl := Option.some.inj h
        refine retJ (Res.vc (s' := ⟨[(4,.sc (.int .i64 x_5))],[(1,⟨32,false,[.rd β2 a1_0_b0.length (a1_0_b0.flatMap (encI .i64)),.rd β3 a1_0_b1.length (a1_0_b1.flatMap (encI .i64)),.sc (.int .i64 a1_0_b2),.sc (.int .i64 a1_0_b3)]⟩)]⟩) (VC.sub (.c rfl<| .n _) (.c rfl<| .n _)) ?_)
        refine Res.sub (H := [(1,⟨32,false,[.rd β2 a1_0_b0.length (a1_0_b0.flatMap (encI .i64)),.rd β3 a1_0_b1.length (a1_0_b1.flatMap (encI .i64)),.sc (.int .i64 a1_0_b2),.sc (.int .i64 a1_0_b3)]⟩)]) (.c rfl<| .n _) ?_
        exact Res.of rfl (.cons (.tmp rfl) (.nil)) rfl rfl
      · have h := iteF hc h
        refine AWP.skip ?_
        obtain ⟨t8_9,ht8_9,h⟩ := letS h
        refine AWP.region (.cons (.add (lt1 rfl) (.tmp rfl) (.const _ _ _))<| .cons (.move (lt1 rfl) (.tmp rfl))<| ARun.nil _ _ _) ?_
        exact endJ t8_9 h (by subst ht8_9; exact VC.sub (.c rfl<| .c rfl<| .c rfl<| .c rfl<| .n _) (.c rfl<| .n _))
    · have h := iteF hc h
      refine AWP.exit ?_
      exact endJ () h (VC.sub (.n _) (.c rfl<| .n _))
theorem c68 {β1 : Bool} {β2 : Bool} {β3 : Bool} (n : Nat) (a0 : (List R56)) (a1_0_b0 : (List Int)) (a1_0_b1 : (List Int)) (a1_0_b2 : Int) (a1_0_b3 : Int) {r : Bool} (h : m68 n a0 a1_0_b0 a1_0_b1 a1_0_b2 a1_0_b3 = some r) : Spec Try.prog 68 [1] [.rd β1 a0.length (a0.flatMap encR56),.clo (.func 67) [] [.ptr 1 0]] [(1,⟨32,false,[.rd β2 a1_0_b0.length (a1_0_b0.flatMap (encI .i64)),.rd β3 a1_0_b1.length (a1_0_b1.flatMap (encI .i64)),.sc (.int .i64 a1_0_b2),.sc (.int .i64 a1_0_b3)]⟩)] (.sc (.bool r)) [(1,⟨32,false,[.rd β2 a1_0_b0.length (a1_0_b0.flatMap (encI .i64)),.rd β3 a1_0_b1.length (a1_0_b1.flatMap (encI .i64)),.sc (.int .i64 a1_0_b2),.sc (.int .i64 a1_0_b3)]⟩)] := by
  refine Spec.of (fn := Try.f68) Try.func68 Try.ntmps68 rfl rfl (le1 rfl) (fun w0 Zs Zb T0 ι0 => ?_)
  unfold m68 at h
  refine AWP.seq ?_
  refine AWP.region (.cons (.assign (lt1 rfl) (.const _ _ _))<| ARun.nil _ _ _) ?_
  refine AWP.vc (s' := ⟨[(0,.rd β1 a0.length (a0.flatMap encR56)),(1,.clo (.func 67) [] [.ptr 1 0])],[(1,⟨32,false,[.rd β2 a1_0_b0.length (a1_0_b0.flatMap (encI .i64)),.rd β3 a1_0_b1.length (a1_0_b1.flatMap (encI .i64)),.sc (.int .i64 a1_0_b2),.sc (.int .i64 a1_0_b3)]⟩)]⟩) (VC.sub (.c rfl<| .c rfl<| .n _) (.c rfl<| .n _)) ?_
  refine AWP.seq ?_
  obtain ⟨y_1,hy_1,h⟩ := bindS h
  refine AWP.region (.cons (.move (lt1 rfl) (.tmp rfl))<| .cons (.move (lt1 rfl) (.tmp rfl))<| .cons (.keep (bw := false) (AStep.call (σ := fun _ => 1) (bw := false) (lt1 rfl) (c50x2 (β1 := β1) (β2 := β2) (β3 := β3) n a0 a1_0_b0 a1_0_b1 a1_0_b2 a1_0_b3 hy_1) (.cons (.tmp rfl) (.ren rfl) (.cons (.tmp rfl) (.ren rfl) (.nil))) (CallOk.mk' (.c rfl (.n)) rfl)) (CallOk.mk' (.c rfl (.n)) rfl) rfl rfl)<| .cons (.geq (lt1 rfl) (.tmp rfl) (.const _ _ _))<| .cons (.assign (lt1 rfl) (.tmp rfl))<| ARun.nil _ _ _) ?_
  refine AWP.ret ?_
  obtain rfl := Option.some.inj h
  refine retJ (Res.vc (s' := ⟨[(4,.sc (.bool (decide ((0 : Int) ≤ y_1))))],[(1,⟨32,false,[.rd β2 a1_0_b0.length (a1_0_b0.flatMap (encI .i64)),.rd β3 a1_0_b1.length (a1_0_b1.flatMap (encI .i64)),.sc (.int .i64 a1_0_b2),.sc (.int .i64 a1_0_b3)]⟩)]⟩) (VC.sub (.c rfl<| .n _) (.c rfl<| .n _)) ?_)
  refine Res.sub (H := [(1,⟨32,false,[.rd β2 a1_0_b0.length (a1_0_b0.flatMap (encI .i64)),.rd β3 a1_0_b1.length (a1_0_b1.flatMap (encI .i64)),.sc (.int .i64 a1_0_b2),.sc (.int .i64 a1_0_b3)]⟩)]) (.c rfl<| .n _) ?_
  exact Res.of rfl (.cons (.tmp rfl) (.nil)) rfl rfl
theorem c59 {β1 : Bool} {β2 : Bool} {β3 : Bool} (n : Nat) (a0 : R23) (a1 : (List R56)) {r : Bool} (h : m59 n a0 a1 = some r) : Spec Try.prog 59 [] [.agg [.rd β1 a0.Lengths.length (a0.Lengths.flatMap (encI .i64)),.rd β2 a0.Demand.length (a0.Demand.flatMap (encI .i64)),.sc (.int .i64 a0.Stock),.sc (.int .i64 a0.Kerf)],.rd β3 a1.length (a1.flatMap encR56)] [] (.sc (.bool r)) [] := by
  refine Spec.of (fn := Try.f59) Try.func59 Try.ntmps59 rfl rfl (le1 rfl) (fun w0 Zs Zb T0 ι0 => ?_)
  unfold m59 at h
  refine AWP.seq ?_
  refine AWP.region (.cons (.box (t := 1) (n := 4) (lt1 rfl) (nm rfl) (.tmp rfl) (by first | exact ⟨rfl,rfl⟩ | rfl) rfl)<| .cons (.assign (lt1 rfl) (.const _ _ _))<| ARun.nil _ _ _) ?_
  refine AWP.vc (s' := ⟨[(1,.rd β3 a1.length (a1.flatMap encR56)),(2,.ptr 1 0)],[(1,⟨32,false,[.rd β1 a0.Lengths.length (a0.Lengths.flatMap (encI .i64)),.rd β2 a0.Demand.length (a0.Demand.flatMap (encI .i64)),.sc (.int .i64 a0.Stock),.sc (.int .i64 a0.Kerf)]⟩)]⟩) (VC.sub (.c rfl<| .c rfl<| .n _) (.c rfl<| .n _)) ?_
  refine AWP.seq ?_
  refine AWP.region (.cons (.makeFunc (lt1 rfl) (.nil) (.cons (.tmp rfl) (.nil)))<| .cons (.assign (lt1 rfl) (.tmp rfl))<| ARun.nil _ _ _) ?_
  refine AWP.vc (s' := ⟨[(1,.rd β3 a1.length (a1.flatMap encR56)),(2,.ptr 1 0),(5,.clo (.func 67) [] [.ptr 1 0])],[(1,⟨32,false,[.rd β1 a0.Lengths.length (a0.Lengths.flatMap (encI .i64)),.rd β2 a0.Demand.length (a0.Demand.flatMap (encI .i64)),.sc (.int .i64 a0.Stock),.sc (.int .i64 a0.Kerf)]⟩)]⟩) (VC.sub (.c rfl<| .c rfl<| .c rfl<| .n _) (.c rfl<| .n _)) ?_
  refine AWP.seq ?_
  obtain ⟨y_1,hy_1,h⟩ := bindS h
  obtain ⟨y_2,hy_2,h⟩ := bindS h
  refine AWP.region (.cons (.loadPA (lt1 rfl) (.tmp rfl) agg32 rfl rfl rfl rfl)<| .cons (.call0 (bw := false) (lt1 rfl) (c21 (β1 := β1) (β2 := β2) n (R23.mk a0.Lengths a0.Demand a0.Stock a0.Kerf) hy_1) (.cons (.tmp rfl) (.ren rfl) (.nil)) rfl)<| .cons (.move (lt1 rfl) (.tmp rfl))<| .guard (j := 2) (dj := 9) rfl (lt1 rfl) rfl (lt1 rfl) (fun hg => .move (lt1 rfl) (.tmp rfl))<| .guard (j := 2) (dj := 9) rfl (lt1 rfl) rfl (lt1 rfl) (fun hg => .lenRd (lt1 rfl) (.gd hg (.tmp rfl)) Try.underlying53)<| .guard (j := 2) (dj := 9) rfl (lt1 rfl) rfl (lt1 rfl) (fun hg => .leq (lt1 rfl) (.gd hg (.tmp rfl)) (.const _ _ _))<| .cons (.pickAnd (lt1 rfl) (.tmp rfl) (.tmp rfl) (.const _ _ _))<| .cons (.move (lt1 rfl) (.tmp rfl))<| .guard (j := 7) (dj := 14) rfl (lt1 rfl) rfl (lt1 rfl) (fun hg => .move (lt1 rfl) (.tmp rfl))<| .guard (j := 7) (dj := 14) rfl (lt1 rfl) rfl (lt1 rfl) (fun hg => .move (lt1 rfl) (.tmp rfl))<| .guard (j := 7) (dj := 14) rfl (lt1 rfl) rfl (lt1 rfl) (fun hg => .keep (bw := false) (AStep.call (σ := fun _ => 1) (bw := false) (lt1 rfl) (c68 (β1 := β3) (β2 := β1) (β3 := β2) n a1 a0.Lengths a0.Demand a0.Stock a0.Kerf (gdB hy_2 hg)) (.cons (.gd hg (.tmp rfl)) (.ren rfl) (.cons (.gd hg (.tmp rfl)) (.ren rfl) (.nil))) (CallOk.mk' (.c rfl (.n)) rfl)) (CallOk.mk' (.c rfl (.n)) rfl) rfl rfl)<| .guard (j := 7) (dj := 14) rfl (lt1 rfl) rfl (lt1 rfl) (fun hg => .not (lt1 rfl) (.gd hg (.tmp rfl)))<| .cons (.pickAnd (lt1 rfl) (.tmp rfl) (.tmp rfl) (.const _ _ _))<| .cons (.assign (lt1 rfl) (.tmp rfl))<| ARun.nil _ _ _) ?_
  refine AWP.ret ?_
  obtain rfl := Option.some.inj h
  refine retJ (Res.vc (s' := ⟨[(4,.sc (.bool ((y_1 && (decide ((a1.length : Int) ≤ (1000 : Int)))) && (!y_2))))],[]⟩) (VC.sub (.c rfl<| .n _) (.n _)) ?_)
  refine Res.drop (H := []) rfl ?_
  exact Res.of rfl (.cons (.tmp rfl) (.nil)) rfl rfl
theorem c33 {β1 : Bool} {β2 : Bool} {β3 : Bool} (n : Nat) (a0 : R23) (a1 : (List R56)) {r : ((List Int) × Int)} (h : m33 n a0 a1 = some r) : Spec Try.prog 33 [] [.agg [.rd β1 a0.Lengths.length (a0.Lengths.flatMap (encI .i64)),.rd β2 a0.Demand.length (a0.Demand.flatMap (encI .i64)),.sc (.int .i64 a0.Stock),.sc (.int .i64 a0.Kerf)],.rd β3 a1.length (a1.flatMap encR56)] [] (.tup [.rd false r.1.length (r.1.flatMap (encI .i64)),.sc (.int .i64 r.2)]) [] := by
  refine Spec.of (fn := Try.f33) Try.func33 Try.ntmps33 rfl rfl (le1 rfl) (fun w0 Zs Zb T0 ι0 => ?_)
  unfold m33 at h
  refine AWP.seq ?_
  refine AWP.region (.cons (.box (t := 1) (n := 4) (lt1 rfl) (nm rfl) (.tmp rfl) (by first | exact ⟨rfl,rfl⟩ | rfl) rfl)<| .cons (.assign (lt1 rfl) (.const _ _ _))<| .cons (.assign (lt1 rfl) (.const _ _ _))<| ARun.nil _ _ _) ?_
  refine AWP.vc (s' := ⟨[(1,.rd β3 a1.length (a1.flatMap encR56)),(2,.ptr 1 0)],[(1,⟨32,false,[.rd β1 a0.Lengths.length (a0.Lengths.flatMap (encI .i64)),.rd β2 a0.Demand.length (a0.Demand.flatMap (encI .i64)),.sc (.int .i64 a0.Stock),.sc (.int .i64 a0.Kerf)]⟩)]⟩) (VC.sub (.c rfl<| .c rfl<| .n _) (.c rfl<| .n _)) ?_
  refine AWP.seq ?_
  refine AWP.seq ?_
  obtain ⟨y_1,hy_1,h⟩ := bindS h
  refine AWP.region (.cons (.loadPA (lt1 rfl) (.tmp rfl) agg32 rfl rfl rfl rfl)<| .cons (.move (lt1 rfl) (.tmp rfl))<| .cons (.call0 (bw := false) (lt1 rfl) (c59 (β1 := β1) (β2 := β2) (β3 := β3) n (R23.mk a0.Lengths a0.Demand a0.Stock a0.Kerf) a1 hy_1) (.cons (.tmp rfl) (.ren rfl) (.cons (.tmp rfl) (.ren rfl) (.nil))) rfl)<| .cons (.not (lt1 rfl) (.tmp rfl))<| ARun.nil _ _ _) ?_
  refine AWP.vc (s' := ⟨[(1,.rd β3 a1.length (a1.flatMap encR56)),(2,.ptr 1 0),(14,.sc (.bool (!y_1)))],[(1,⟨32,false,[.rd β1 a0.Lengths.length (a0.Lengths.flatMap (encI .i64)),.rd β2 a0.Demand.length (a0.Demand.flatMap (encI .i64)),.sc (.int .i64 a0.Stock),.sc (.int .i64 a0.Kerf)]⟩)]⟩) (VC.sub (.c rfl<| .c rfl<| .c rfl<| .n _) (.c rfl<| .n _)) ?_
  refine AWP.cond (.tmp rfl) (fun hc => ?_) (fun hc => ?_)
  · have h := iteT hc h
    refine AWP.seq ?_
    refine AWP.region (.cons (.assign (lt1 rfl) (.const _ _ _))<| .cons (.assign (lt1 rfl) (.const _ _ _))<| ARun.nil _ _ _) ?_
    refine AWP.ret ?_
    obtain rfl := Option.some.inj h
    refine retJ (Res.vc (s' := ⟨[(4,.rd false ([] : List Int).length (([] : List Int).flatMap (encI .i64))),(5,.sc (.int .i64 (1 : Int)))],[]⟩) (VC.trans (VC.nilRd (d := 4) false rfl) (VC.sub (.c rfl<| .c rfl<| .n _) (.n _))) ?_)
    refine Res.drop (H := []) rfl ?_
    exact Res.of rfl (.cons (.tmp rfl) (.cons (.tmp rfl) (.nil))) rfl rfl
  · have h := iteF hc h
    refine AWP.skip ?_
    refine AWP.seq ?_
    obtain ⟨l2_2,hl2_2,h⟩ := bindS h
    refine AWP.region (.cons (.fieldP (lt1 rfl) (.tmp rfl) fld32_0)<| .cons (.loadP (lt1 rfl) (.tmp rfl) one22 rfl rfl rfl)<| .cons (.lenRd (lt1 rfl) (.tmp rfl) Try.underlying22)<| .cons (.mkS (enc := (encI .i64)) (t := 2) (lt1 rfl) (nm rfl) (.tmp rfl) (.tmp rfl) Try.underlying22 zero3 el3 rfl (encI_len .i64) (by decide) hl2_2)<| .cons (.assign (lt1 rfl) (.tmp rfl))<| ARun.nil _ _ _) ?_
    refine AWP.vc (s' := ⟨[(1,.rd β3 a1.length (a1.flatMap encR56)),(6,.own 2 1 0 l2_2.length)],[(2,⟨3,true,l2_2.flatMap (encI .i64)⟩)]⟩) (VC.sub (.c rfl<| .c rfl<| .n _) (.c rfl<| .n _)) ?_
    refine AWP.seq ?_
    refine AWP.seq ?_
    refine AWP.region (.cons (.move (lt1 rfl) (.tmp rfl))<| .cons (.lenRd (lt1 rfl) (.tmp rfl) Try.underlying53)<| .cons (.move (lt1 rfl) (.const _ _ _))<| ARun.nil _ _ _) ?_
    refine AWP.vc (s' := ⟨[(6,.own 2 1 0 l2_2.length),(19,.rd β3 a1.length (a1.flatMap encR56)),(20,.sc (.int .i64 (a1.length : Int))),(21,.sc (.int .i64 (0 : Int)))],[(2,⟨3,true,l2_2.flatMap (encI .i64)⟩)]⟩) (VC.sub (.c rfl<| .c rfl<| .c rfl<| .c rfl<| .n _) (.c rfl<| .n _)) ?_
    refine AWP.joinB' (S := fun p_76 : (List Int) => ⟨[(6,.own 2 1 0 p_76.length)],[(2,⟨3,true,p_76.flatMap (encI .i64)⟩)]⟩) h (fun p_76 h => ?_) (fun k_77 h => ?_)
    · refine AWP.seq ?_
      refine AWP.region (.cons (.move (lt1 rfl) (.tmp rfl))<| .cons (.assign (lt1 rfl) (.tmp rfl))<| .cons (.assign (lt1 rfl) (.const _ _ _))<| ARun.nil _ _ _) ?_
      refine AWP.ret ?_
      obtain rfl := Option.some.inj h
      refine retJ (Res.vc (s' := ⟨[(4,.rd false p_76.length (p_76.flatMap (encI .i64))),(5,.sc (.int .i64 (0 : Int)))],[]⟩) (VC.trans (VC.frz (d := 4) (t := 2) rfl rfl (encI_len .i64)) (VC.sub (.c rfl<| .c rfl<| .n _) (.n _))) ?_)
      refine Res.drop (H := []) rfl ?_
      exact Res.of rfl (.cons (.tmp rfl) (.cons (.tmp rfl) (.nil))) rfl rfl
    · refine AWP.vc (s' := ⟨[(6,.own 2 1 0 l2_2.length),(19,.rd β3 a1.length (a1.flatMap encR56)),(20,.sc (.int .i64 (a1.length : Int))),(21,.sc (.int .i64 (0 : Int)))],[(2,⟨3,true,l2_2.flatMap (encI .i64)⟩)]⟩) (VC.sub (.c rfl<| .c rfl<| .c rfl<| .c rfl<| .n _) (.c rfl<| .n _)) ?_
      refine AWP.loopM (S := fun x_51 : Int × (List Int) => ⟨[(6,.own 2 1 0 x_51.2.length),(19,.rd β3 a1.length (a1.flatMap encR56)),(20,.sc (.int .i64 (a1.length : Int))),(21,.sc (.int .i64 x_51.1))],[(2,⟨3,true,x_51.2.flatMap (encI .i64)⟩)]⟩) (x := ((0 : Int),l2_2)) (fun nx_52 x_51 h => ?_) h
      unfold m33_L3 at h
      refine AWP.seq ?_
      refine AWP.region (.cons (.lss (lt1 rfl) (.tmp rfl) (.tmp rfl))<| ARun.nil _ _ _) ?_
      refine AWP.vc (s' := ⟨[(6,.own 2 1 0 x_51.2.length),(19,.rd β3 a1.length (a1.flatMap encR56)),(20,.sc (.int .i64 (a1.length : Int))),(21,.sc (.int .i64 x_51.1)),(22,.sc (.bool (decide (x_51.1 < (a1.length : Int)))))],[(2,⟨3,true,x_51.2.flatMap (encI .i64)⟩)]⟩) (VC.sub (.c rfl<| .c rfl<| .c rfl<| .c rfl<| .c rfl<| .n _) (.c rfl<| .n _)) ?_
      refine AWP.seq ?_
      refine AWP.cond (.tmp rfl) (fun hc => ?_) (fun hc => ?_)
      · have h := iteT hc h
        refine AWP.skip ?_
        refine AWP.seq ?_
        refine AWP.block ?_
        refine AWP.seq ?_
        obtain ⟨y_53,hy_53,h⟩ := bindS h
        refine AWP.region (.cons (.indexRd (enc := encR56) (lt1 rfl) (.tmp rfl) (.tmp rfl) Try.underlying53 sz57 encR56_len rfl hy_53)<| .cons (.loadRA (out := [.rd β3 y_53.Pattern.length (y_53.Pattern.flatMap (encI .i64)),.sc (.int .i64 y_53.Count)]) (lt1 rfl) (.tmp rfl) agg57 (Nat.le_of_eq (Eq.symm (encR56_len _))) rfl)<| .cons (.alloc (t := 3) (k := ⟨57,false,[.sc (.slice none 0 0),.sc (.int .i64 (0 : Int))]⟩) (lt1 rfl) (nm rfl) zero57 rfl rfl)<| .cons (.storePA (.tmp rfl) (.tmp rfl) sz57 rfl rfl (le1 rfl) (one_lit rfl) (by intro h; cases h) rfl)<| ARun.nil _ _ _) ?_
        refine AWP.vc (s' := ⟨[(6,.own 2 1 0 x_51.2.length),(19,.rd β3 a1.length (a1.flatMap encR56)),(20,.sc (.int .i64 (a1.length : Int))),(21,.sc (.int .i64 x_51.1)),(8,.ptr 3 0)],[(3,⟨57,false,[.rd β3 y_53.Pattern.length (y_53.Pattern.flatMap (encI .i64)),.sc (.int .i64 y_53.Count)]⟩),(2,⟨3,true,x_51.2.flatMap (encI .i64)⟩)]⟩) (VC.sub (.c rfl<| .c rfl<| .c rfl<| .c rfl<| .c rfl<| .n _) (.c rfl<| .c rfl<| .n _)) ?_
        refine AWP.seq ?_
        refine AWP.region (.cons (.fieldP (lt1 rfl) (.tmp rfl) fld57_0)<| .cons (.loadP (lt1 rfl) (.tmp rfl) one22 rfl rfl rfl)<| .cons (.lenRd (lt1 rfl) (.tmp rfl) Try.underlying22)<| .cons (.move (lt1 rfl) (.const _ _ _))<| ARun.nil _ _ _) ?_
        refine AWP.vc (s' := ⟨[(6,.own 2 1 0 x_51.2.length),(19,.rd β3 a1.length (a1.flatMap encR56)),(20,.sc (.int .i64 (a1.length : Int))),(21,.sc (.int .i64 x_51.1)),(8,.ptr 3 0),(26,.rd β3 y_53.Pattern.length (y_53.Pattern.flatMap (encI .i64))),(27,.sc (.int .i64 (y_53.Pattern.length : Int))),(28,.sc (.int .i64 (0 : Int)))],[(3,⟨57,false,[.rd β3 y_53.Pattern.length (y_53.Pattern.flatMap (encI .i64)),.sc (.int .i64 y_53.Count)]⟩),(2,⟨3,true,x_51.2.flatMap (encI .i64)⟩)]⟩) (VC.sub (.c rfl<| .c rfl<| .c rfl<| .c rfl<| .c rfl<| .c rfl<| .c rfl<| .c rfl<| .n _) (.c rfl<| .c rfl<| .n _)) ?_
        refine AWP.joinB' (S := fun p_73 : (List Int) => ⟨[(6,.own 2 1 0 p_73.length),(19,.rd β3 a1.length (a1.flatMap encR56)),(20,.sc (.int .i64 (a1.length : Int))),(21,.sc (.int .i64 x_51.1))],[(2,⟨3,true,p_73.flatMap (encI .i64)⟩)]⟩) h (fun p_73 h => ?_) (fun k_74 h => ?_)
        · obtain ⟨t21_75,ht21_75,h⟩ := letS h
          refine AWP.region (.cons (.add (lt1 rfl) (.tmp rfl) (.const _ _ _))<| .cons (.move (lt1 rfl) (.tmp rfl))<| ARun.nil _ _ _) ?_
          exact endJ (t21_75,p_73) h (by subst ht21_75; exact VC.sub (.c rfl<| .c rfl<| .c rfl<| .c rfl<| .n _) (.c rfl<| .n _))
        · refine AWP.vc (s' := ⟨[(6,.own 2 1 0 x_51.2.length),(8,.ptr 3 0),(19,.rd β3 a1.length (a1.flatMap encR56)),(20,.sc (.int .i64 (a1.length : Int))),(21,.sc (.int .i64 x_51.1)),(26,.rd β3 y_53.Pattern.length (y_53.Pattern.flatMap (encI .i64))),(27,.sc (.int .i64 (y_53.Pattern.length : Int))),(28,.sc (.int .i64 (0 : Int)))],[(2,⟨3,true,x_51.2.flatMap (encI .i64)⟩),(3,⟨57,false,[.rd β3 y_53.Pattern.length (y_53.Pattern.flatMap (encI .i64)),.sc (.int .i64 y_53.Count)]⟩)]⟩) (VC.sub (.c rfl<| .c rfl<| .c rfl<| .c rfl<| .c rfl<| .c rfl<| .c rfl<| .c rfl<| .n _) (.c rfl<| .c rfl<| .n _)) ?_
          refine AWP.loopM (S := fun x_66 : Int × (List Int) => ⟨[(6,.own 2 1 0 x_66.2.length),(8,.ptr 3 0),(19,.rd β3 a1.length (a1.flatMap encR56)),(20,.sc (.int .i64 (a1.length : Int))),(21,.sc (.int .i64 x_51.1)),(26,.rd β3 y_53.Pattern.length (y_53.Pattern.flatMap (encI .i64))),(27,.sc (.int .i64 (y_53.Pattern.length : Int))),(28,.sc (.int .i64 x_66.1))],[(2,⟨3,true,x_66.2.flatMap (encI .i64)⟩),(3,⟨57,false,[.rd β3 y_53.Pattern.length (y_53.Pattern.flatMap (encI .i64)),.sc (.int .i64 y_53.Count)]⟩)]⟩) (x := ((0 : Int),x_51.2)) (fun nx_67 x_66 h => ?_) h
          unfold m33_L4 at h
          refine AWP.seq ?_
          refine AWP.region (.cons (.lss (lt1 rfl) (.tmp rfl) (.tmp rfl))<| ARun.nil _ _ _) ?_
          refine AWP.vc (s' := ⟨[(6,.own 2 1 0 x_66.2.length),(8,.ptr 3 0),(19,.rd β3 a1.length (a1.flatMap encR56)),(20,.sc (.int .i64 (a1.length : Int))),(21,.sc (.int .i64 x_51.1)),(26,.rd β3 y_53.Pattern.length (y_53.Pattern.flatMap (encI .i64))),(27,.sc (.int .i64 (y_53.Pattern.length : Int))),(28,.sc (.int .i64 x_66.1)),(29,.sc (.bool (decide (x_66.1 < (y_53.Pattern.length : Int)))))],[(2,⟨3,true,x_66.2.flatMap (encI .i64)⟩),(3,⟨57,false,[.rd β3 y_53.Pattern.length (y_53.Pattern.flatMap (encI .i64)),.sc (.int .i64 y_53.Count)]⟩)]⟩) (VC.sub (.c rfl<| .c rfl<| .c rfl<| .c rfl<| .c rfl<| .c rfl<| .c rfl<| .c rfl<| .c rfl<| .n _) (.c rfl<| .c rfl<| .n _)) ?_
          refine AWP.seq ?_
          refine AWP.cond (.tmp rfl) (fun hc => ?_) (fun hc => ?_)
          · have h := iteT hc h
            refine AWP.skip ?_
            refine AWP.seq ?_
            refine AWP.block ?_
            refine AWP.seq ?_
            obtain ⟨y_68,hy_68,h⟩ := bindS h
            refine AWP.region (.cons (.move (lt1 rfl) (.tmp rfl))<| .cons (.indexRd (enc := (encI .i64)) (lt1 rfl) (.tmp rfl) (.tmp rfl) Try.underlying22 sz3 (encI_len .i64) rfl hy_68)<| .cons (.loadR (v := .sc (.int .i64 y_68)) (lt1 rfl) (.tmp rfl) one3 rfl)<| .cons (.assign (lt1 rfl) (.tmp rfl))<| .cons (.assign (lt1 rfl) (.tmp rfl))<| ARun.nil _ _ _) ?_
            refine AWP.vc (s' := ⟨[(6,.own 2 1 0 x_66.2.length),(8,.ptr 3 0),(19,.rd β3 a1.length (a1.flatMap encR56)),(20,.sc (.int .i64 (a1.length : Int))),(21,.sc (.int .i64 x_51.1)),(26,.rd β3 y_53.Pattern.length (y_53.Pattern.flatMap (encI .i64))),(27,.sc (.int .i64 (y_53.Pattern.length : Int))),(28,.sc (.int .i64 x_66.1)),(9,.sc (.int .i64 x_66.1)),(10,.sc (.int .i64 y_68))],[(2,⟨3,true,x_66.2.flatMap (encI .i64)⟩),(3,⟨57,false,[.rd β3 y_53.Pattern.length (y_53.Pattern.flatMap (encI .i64)),.sc (.int .i64 y_53.Count)]⟩)]⟩) (VC.sub (.c rfl<| .c rfl<| .c rfl<| .c rfl<| .c rfl<| .c rfl<| .c rfl<| .c rfl<| .c rfl<| .c rfl<| .n _) (.c rfl<| .c rfl<| .n _)) ?_
            obtain ⟨y_69,hy_69,h⟩ := bindS h
            obtain ⟨y_70,hy_70,h⟩ := bindS h
            obtain ⟨l2_71,hl2_71,h⟩ := bindS h
            refine AWP.draw (s' := ⟨[(6,.own 2 1 0 x_66.2.length),(8,.ptr 3 0),(19,.rd β3 a1.length (a1.flatMap encR56)),(20,.sc (.int .i64 (a1.length : Int))),(21,.sc (.int .i64 x_51.1)),(26,.rd β3 y_53.Pattern.length (y_53.Pattern.flatMap (encI .i64))),(27,.sc (.int .i64 (y_53.Pattern.length : Int))),(28,.sc (.int .i64 x_66.1))],[(2,⟨3,true,l2_71.flatMap (encI .i64)⟩),(3,⟨57,false,[.rd β3 y_53.Pattern.length (y_53.Pattern.flatMap (encI .i64)),.sc (.int .i64 y_53.Count)]⟩)]⟩) mixed [⟨6,.own 2 1 0 x_66.2.length,none,[]⟩,⟨8,.ptr 3 0,none,[]⟩,⟨9,.sc (.int .i64 x_66.1),none,[]⟩,⟨10,.sc (.int .i64 y_68),none,[]⟩,⟨19,.rd β3 a1.length (a1.flatMap encR56),none,[]⟩,⟨20,.sc (.int .i64 (a1.length : Int)),none,[]⟩,⟨21,.sc (.int .i64 x_51.1),none,[]⟩,⟨26,.rd β3 y_53.Pattern.length (y_53.Pattern.flatMap (encI .i64)),none,[]⟩,⟨27,.sc (.int .i64 (y_53.Pattern.length : Int)),none,[]⟩,⟨28,.sc (.int .i64 x_66.1),none,[]⟩,⟨33,.own 2 1 0 x_66.2.length,some 0,[]⟩,⟨34,.sc (.int .i64 x_66.1),some 1,[]⟩,⟨35,.ptr 2 (0 + (x_66.1).toNat * 1),some 2,[]⟩,⟨36,.sc (.int .i64 y_69),some 3,[]⟩,⟨37,.sc (.int .i64 y_68),some 4,[]⟩,⟨38,.ptr 3 (0 + 1),some 5,[]⟩,⟨39,.sc (.int .i64 y_53.Count),some 6,[]⟩,⟨40,.sc (.int .i64 (IntKind.wrap .i64 (y_68 * y_53.Count))),some 7,[]⟩,⟨41,.sc (.int .i64 (IntKind.wrap .i64 (y_69 + (IntKind.wrap .i64 (y_68 * y_53.Count))))),some 8,[]⟩,⟨42,.ptr 2 (0 + (x_66.1).toNat * 1),some 9,[]⟩] [⟨[0],0,0,some (33,.own 2 1 0 x_66.2.length),[]⟩,⟨[2],0,1,some (34,.sc (.int .i64 x_66.1)),[]⟩,⟨[10,11],0,0,some (35,.ptr 2 (0 + (x_66.1).toNat * 1)),[]⟩,⟨[12],0,0,some (36,.sc (.int .i64 y_69)),[]⟩,⟨[3],0,1,some (37,.sc (.int .i64 y_68)),[]⟩,⟨[1],0,0,some (38,.ptr 3 (0 + 1)),[]⟩,⟨[15],0,0,some (39,.sc (.int .i64 y_53.Count)),[]⟩,⟨[14,16],0,1,some (40,.sc (.int .i64 (IntKind.wrap .i64 (y_68 * y_53.Count)))),[]⟩,⟨[13,17],0,1,some (41,.sc (.int .i64 (IntKind.wrap .i64 (y_69 + (IntKind.wrap .i64 (y_68 * y_53.Count)))))),[]⟩,⟨[10,11],0,0,some (42,.ptr 2 (0 + (x_66.1).toNat * 1)),[]⟩,⟨[19,18],0,0,none,[]⟩] [10] [[(2,⟨3,true,x_66.2.flatMap (encI .i64)⟩),(3,⟨57,false,[.rd β3 y_53.Pattern.length (y_53.Pattern.flatMap (encI .i64)),.sc (.int .i64 y_53.Count)]⟩)],[(2,⟨3,true,l2_71.flatMap (encI .i64)⟩),(3,⟨57,false,[.rd β3 y_53.Pattern.length (y_53.Pattern.flatMap (encI .i64)),.sc (.int .i64 y_53.Count)]⟩)]] [[],[],[0,1],[0,1,2],[],[],[5],[4,5,6],[0,1,2,3,4,5,6,7],[0,1,2,3,4,5,6,7,8],[0,1,2,3,4,5,6,7,8,9]] (by kernel_rfl) (by kernel_rfl) (BornL.ok (.o<| .o<| .o<| .o<| .o<| .o<| .o<| .o<| .o<| .o<| .b rfl rfl<| .b rfl rfl<| .b rfl rfl<| .b rfl rfl<| .b rfl rfl<| .b rfl rfl<| .b rfl rfl<| .b rfl rfl<| .b rfl rfl<| .b rfl rfl<| .n)) (BaseL.ok (.o rfl<| .o rfl<| .o rfl<| .o rfl<| .o rfl<| .o rfl<| .o rfl<| .o rfl<| .o rfl<| .o rfl<| .b<| .b<| .b<| .b<| .b<| .b<| .b<| .b<| .b<| .b<| .n)) rfl (by decide) (allLt rfl) (.read rfl (.c (.put (fun E hE => .move (lt1 rfl) (.tmp (hE.at (k := 0) rfl)))) (.n))<| .pure rfl (fun H => .put (fun E hE => .move (lt1 rfl) (.tmp (hE.at (k := 0) rfl))))<| .read rfl (.c (.put (fun E hE => .idxOwn (lt1 rfl) (.tmp (hE.at (k := 0) rfl)) (.tmp (hE.at (k := 1) rfl)) Try.underlying22 sz3 rfl hy_69)) (.n))<| .read rfl (.c (.put (fun E hE => .loadP (lt1 rfl) (.tmp (hE.at (k := 0) rfl)) one3 rfl (cell_at1 (encI_len .i64) hy_69) rfl)) (.n))<| .pure rfl (fun H => .put (fun E hE => .move (lt1 rfl) (.tmp (hE.at (k := 0) rfl))))<| .read rfl (.c (.put (fun E hE => .fieldP (lt1 rfl) (.tmp (hE.at (k := 0) rfl)) fld57_1)) (.n))<| .read rfl (.c (.put (fun E hE => .loadP (lt1 rfl) (.tmp (hE.at (k := 0) rfl)) one3 rfl rfl rfl)) (.n))<| .pure rfl (fun H => .put (fun E hE => .mul (lt1 rfl) (.tmp (hE.at (k := 0) rfl)) (.tmp (hE.at (k := 1) rfl))))<| .pure rfl (fun H => .put (fun E hE => .add (lt1 rfl) (.tmp (hE.at (k := 0) rfl)) (.tmp (hE.at (k := 1) rfl))))<| .read rfl (.c (.put (fun E hE => .idxOwn (lt1 rfl) (.tmp (hE.at (k := 0) rfl)) (.tmp (hE.at (k := 1) rfl)) Try.underlying22 sz3 rfl hy_70)) (.n))<| .turn rfl rfl rfl rfl rfl (.store (fun E hE => .storeP (.tmp (hE.at (k := 0) rfl)) (.tmp (hE.at (k := 1) rfl)) sz3 rfl (lt_at1 (encI_len .i64) hy_70) rfl (fun _ => rfl) (set_at1 (encI_len .i64) hl2_71 rfl)) rfl)<| .nil _) (fun E hE => .c (DInv.at hE (k := 0) rfl rfl rfl)<| .c (DInv.at hE (k := 1) rfl rfl rfl)<| .c (DInv.at hE (k := 4) rfl rfl rfl)<| .c (DInv.at hE (k := 5) rfl rfl rfl)<| .c (DInv.at hE (k := 6) rfl rfl rfl)<| .c (DInv.at hE (k := 7) rfl rfl rfl)<| .c (DInv.at hE (k := 8) rfl rfl rfl)<| .c (DInv.at hE (k := 9) rfl rfl rfl)<| .n _) rfl ?_
            refine AWP.vc (s' := ⟨[(6,.own 2 1 0 l2_71.length),(8,.ptr 3 0),(19,.rd β3 a1.length (a1.flatMap encR56)),(20,.sc (.int .i64 (a1.length : Int))),(21,.sc (.int .i64 x_51.1)),(26,.rd β3 y_53.Pattern.length (y_53.Pattern.flatMap (encI .i64))),(27,.sc (.int .i64 (y_53.Pattern.length : Int))),(28,.sc (.int .i64 x_66.1))],[(2,⟨3,true,l2_71.flatMap (encI .i64)⟩),(3,⟨57,false,[.rd β3 y_53.Pattern.length (y_53.Pattern.flatMap (encI .i64)),.sc (.int .i64 y_53.Count)]⟩)]⟩) (VC.sub (.c (lenC (Eq.symm (setLen hl2_71)) rfl)<| .c rfl<| .c rfl<| .c rfl<| .c rfl<| .c rfl<| .c rfl<| .c rfl<| .n _) (.c rfl<| .c rfl<| .n _)) ?_
            obtain ⟨t28_72,ht28_72,h⟩ := letS h
            refine AWP.region (.cons (.add (lt1 rfl) (.tmp rfl) (.const _ _ _))<| .cons (.move (lt1 rfl) (.tmp rfl))<| ARun.nil _ _ _) ?_
            exact endJ (t28_72,l2_71) h (by subst ht28_72; exact VC.sub (.c rfl<| .c rfl<| .c rfl<| .c rfl<| .c rfl<| .c rfl<| .c rfl<| .c rfl<| .n _) (.c rfl<| .c rfl<| .n _))
          · have h := iteF hc h
            refine AWP.exit ?_
            exact endJ x_66.2 h (VC.sub (.c rfl<| .c rfl<| .c rfl<| .c rfl<| .n _) (.c rfl<| .n _))
      · have h := iteF hc h
        refine AWP.exit ?_
        exact endJ x_51.2 h (VC.sub (.c rfl<| .n _) (.c rfl<| .n _))
theorem c35 {β1 : Bool} (n : Nat) (a0 : (List R56)) {r : Int} (h : m35 n a0 = some r) : Spec Try.prog 35 [] [.rd β1 a0.length (a0.flatMap encR56)] [] (.sc (.int .i64 r)) [] := by
  refine Spec.of (fn := Try.f35) Try.func35 Try.ntmps35 rfl rfl (le1 rfl) (fun w0 Zs Zb T0 ι0 => ?_)
  unfold m35 at h
  refine AWP.seq ?_
  refine AWP.region (.cons (.assign (lt1 rfl) (.const _ _ _))<| ARun.nil _ _ _) ?_
  refine AWP.vc (s' := ⟨[(0,.rd β1 a0.length (a0.flatMap encR56))],[]⟩) (VC.sub (.c rfl<| .n _) (.n _)) ?_
  refine AWP.seq ?_
  refine AWP.region (.cons (.assign (lt1 rfl) (.const _ _ _))<| ARun.nil _ _ _) ?_
  refine AWP.vc (s' := ⟨[(0,.rd β1 a0.length (a0.flatMap encR56)),(3,.sc (.int .i64 (0 : Int)))],[]⟩) (VC.sub (.c rfl<| .c rfl<| .n _) (.n _)) ?_
  refine AWP.seq ?_
  refine AWP.seq ?_
  refine AWP.region (.cons (.move (lt1 rfl) (.tmp rfl))<| .cons (.lenRd (lt1 rfl) (.tmp rfl) Try.underlying53)<| .cons (.move (lt1 rfl) (.const _ _ _))<| ARun.nil _ _ _) ?_
  refine AWP.vc (s' := ⟨[(3,.sc (.int .i64 (0 : Int))),(6,.rd β1 a0.length (a0.flatMap encR56)),(7,.sc (.int .i64 (a0.length : Int))),(8,.sc (.int .i64 (0 : Int)))],[]⟩) (VC.sub (.c rfl<| .c rfl<| .c rfl<| .c rfl<| .n _) (.n _)) ?_
  refine AWP.joinB' (S := fun p_10 : Int => ⟨[(3,.sc (.int .i64 p_10))],[]⟩) h (fun p_10 h => ?_) (fun k_11 h => ?_)
  · refine AWP.seq ?_
    refine AWP.region (.cons (.move (lt1 rfl) (.tmp rfl))<| .cons (.assign (lt1 rfl) (.tmp rfl))<| ARun.nil _ _ _) ?_
    refine AWP.ret ?_
    obtain rfl := Option.some.inj h
    refine retJ (Res.vc (s' := ⟨[(2,.sc (.int .i64 p_10))],[]⟩) (VC.sub (.c rfl<| .n _) (.n _)) ?_)
    refine Res.drop (H := []) rfl ?_
    exact Res.of rfl (.cons (.tmp rfl) (.nil)) rfl rfl
  · refine AWP.vc (s' := ⟨[(3,.sc (.int .i64 (0 : Int))),(6,.rd β1 a0.length (a0.flatMap encR56)),(7,.sc (.int .i64 (a0.length : Int))),(8,.sc (.int .i64 (0 : Int)))],[]⟩) (VC.sub (.c rfl<| .c rfl<| .c rfl<| .c rfl<| .n _) (.n _)) ?_
    refine AWP.loopM (S := fun x_5 : Int × Int => ⟨[(3,.sc (.int .i64 x_5.1)),(6,.rd β1 a0.length (a0.flatMap encR56)),(7,.sc (.int .i64 (a0.length : Int))),(8,.sc (.int .i64 x_5.2))],[]⟩) (x := ((0 : Int),(0 : Int))) (fun nx_6 x_5 h => ?_) h
    unfold m35_L1 at h
    refine AWP.seq ?_
    refine AWP.region (.cons (.lss (lt1 rfl) (.tmp rfl) (.tmp rfl))<| ARun.nil _ _ _) ?_
    refine AWP.vc (s' := ⟨[(3,.sc (.int .i64 x_5.1)),(6,.rd β1 a0.length (a0.flatMap encR56)),(7,.sc (.int .i64 (a0.length : Int))),(8,.sc (.int .i64 x_5.2)),(9,.sc (.bool (decide (x_5.2 < (a0.length : Int)))))],[]⟩) (VC.sub (.c rfl<| .c rfl<| .c rfl<| .c rfl<| .c rfl<| .n _) (.n _)) ?_
    refine AWP.seq ?_
    refine AWP.cond (.tmp rfl) (fun hc => ?_) (fun hc => ?_)
    · have h := iteT hc h
      refine AWP.skip ?_
      refine AWP.seq ?_
      refine AWP.block ?_
      refine AWP.seq ?_
      obtain ⟨y_7,hy_7,h⟩ := bindS h
      refine AWP.region (.cons (.indexRd (enc := encR56) (lt1 rfl) (.tmp rfl) (.tmp rfl) Try.underlying53 sz57 encR56_len rfl hy_7)<| .cons (.loadRA (out := [.rd β1 y_7.Pattern.length (y_7.Pattern.flatMap (encI .i64)),.sc (.int .i64 y_7.Count)]) (lt1 rfl) (.tmp rfl) agg57 (Nat.le_of_eq (Eq.symm (encR56_len _))) rfl)<| .cons (.alloc (t := 1) (k := ⟨57,false,[.sc (.slice none 0 0),.sc (.int .i64 (0 : Int))]⟩) (lt1 rfl) (nm rfl) zero57 rfl rfl)<| .cons (.storePA (.tmp rfl) (.tmp rfl) sz57 rfl rfl (le1 rfl) (one_lit rfl) (by intro h; cases h) rfl)<| ARun.nil _ _ _) ?_
      refine AWP.vc (s' := ⟨[(3,.sc (.int .i64 x_5.1)),(6,.rd β1 a0.length (a0.flatMap encR56)),(7,.sc (.int .i64 (a0.length : Int))),(8,.sc (.int .i64 x_5.2)),(5,.ptr 1 0)],[(1,⟨57,false,[.rd β1 y_7.Pattern.length (y_7.Pattern.flatMap (encI .i64)),.sc (.int .i64 y_7.Count)]⟩)]⟩) (VC.sub (.c rfl<| .c rfl<| .c rfl<| .c rfl<| .c rfl<| .n _) (.c rfl<| .n _)) ?_
      obtain ⟨t3_8,ht3_8,h⟩ := letS h
      refine AWP.region (.cons (.move (lt1 rfl) (.tmp rfl))<| .cons (.fieldP (lt1 rfl) (.tmp rfl) fld57_1)<| .cons (.loadP (lt1 rfl) (.tmp rfl) one3 rfl rfl rfl)<| .cons (.add (lt1 rfl) (.tmp rfl) (.tmp rfl))<| .cons (.assign (lt1 rfl) (.tmp rfl))<| ARun.nil _ _ _) ?_
      refine AWP.vc (s' := ⟨[(3,.sc (.int .i64 t3_8)),(6,.rd β1 a0.length (a0.flatMap encR56)),(7,.sc (.int .i64 (a0.length : Int))),(8,.sc (.int .i64 x_5.2))],[]⟩) (by subst ht3_8; exact VC.sub (.c rfl<| .c rfl<| .c rfl<| .c rfl<| .n _) (.n _)) ?_
      obtain ⟨t8_9,ht8_9,h⟩ := letS h
      refine AWP.region (.cons (.add (lt1 rfl) (.tmp rfl) (.const _ _ _))<| .cons (.move (lt1 rfl) (.tmp rfl))<| ARun.nil _ _ _) ?_
      exact endJ (t3_8,t8_9) h (by subst ht8_9; exact VC.sub (.c rfl<| .c rfl<| .c rfl<| .c rfl<| .n _) (.n _))
    · have h := iteF hc h
      refine AWP.exit ?_
      exact endJ x_5.1 h (VC.sub (.c rfl<| .n _) (.n _))
theorem c37 (n : Nat) (a0 : (List R56)) {r : (List R56)} (h : m37 n a0 = some r) : Spec Try.prog 37 [] [.rd false a0.length (a0.flatMap encR56)] [] (.rd false r.length (r.flatMap encR56)) [] := by
  refine Spec.of (fn := Try.f37) Try.func37 Try.ntmps37 rfl rfl (le1 rfl) (fun w0 Zs Zb T0 ι0 => ?_)
  unfold m37 at h
  refine AWP.seq ?_
  refine AWP.region (.cons (.assign (lt1 rfl) (.const _ _ _))<| ARun.nil _ _ _) ?_
  refine AWP.vc (s' := ⟨[(0,.rd false a0.length (a0.flatMap encR56))],[]⟩) (VC.sub (.c rfl<| .n _) (.n _)) ?_
  refine AWP.seq ?_
  refine AWP.region (.cons (.assign (lt1 rfl) (.const _ _ _))<| ARun.nil _ _ _) ?_
  refine AWP.vc (s' := ⟨[(0,.rd false a0.length (a0.flatMap encR56)),(3,.sc (.slice none 0 0))],[]⟩) (VC.sub (.c rfl<| .c rfl<| .n _) (.n _)) ?_
  refine AWP.seq ?_
  refine AWP.seq ?_
  refine AWP.region (.cons (.move (lt1 rfl) (.tmp rfl))<| .cons (.lenRd (lt1 rfl) (.tmp rfl) Try.underlying53)<| .cons (.move (lt1 rfl) (.const _ _ _))<| ARun.nil _ _ _) ?_
  refine AWP.vc (s' := ⟨[(3,.sc (.slice none 0 0)),(6,.rd false a0.length (a0.flatMap encR56)),(7,.sc (.int .i64 (a0.length : Int))),(8,.sc (.int .i64 (0 : Int)))],[]⟩) (VC.sub (.c rfl<| .c rfl<| .c rfl<| .c rfl<| .n _) (.n _)) ?_
  refine AWP.joinB' (S := fun p_14 : (List R56) => ⟨[(3,.own 1 2 0 p_14.length)],[(1,⟨78,true,p_14.flatMap encR56⟩)]⟩) h (fun p_14 h => ?_) (fun k_15 h => ?_)
  · refine AWP.seq ?_
    refine AWP.region (.cons (.move (lt1 rfl) (.tmp rfl))<| .cons (.assign (lt1 rfl) (.tmp rfl))<| ARun.nil _ _ _) ?_
    refine AWP.ret ?_
    obtain rfl := Option.some.inj h
    refine retJ (Res.vc (s' := ⟨[(2,.rd false p_14.length (p_14.flatMap encR56))],[]⟩) (VC.trans (VC.frz (d := 2) (t := 1) rfl rfl encR56_len) (VC.sub (.c rfl<| .n _) (.n _))) ?_)
    refine Res.drop (H := []) rfl ?_
    exact Res.of rfl (.cons (.tmp rfl) (.nil)) rfl rfl
  · refine AWP.vc (VC.nilOwn (d := 3) (t := 1) (sz := 2) (E := 78) rfl (nm rfl)) ?_
    refine AWP.vc (s' := ⟨[(3,.own 1 2 0 ([] : List R56).length),(6,.rd false a0.length (a0.flatMap encR56)),(7,.sc (.int .i64 (a0.length : Int))),(8,.sc (.int .i64 (0 : Int)))],[(1,⟨78,true,([] : List R56).flatMap encR56⟩)]⟩) (VC.sub (.c rfl<| .c rfl<| .c rfl<| .c rfl<| .n _) (.c rfl<| .n _)) ?_
    refine AWP.loopM (S := fun x_9 : Int × (List R56) => ⟨[(3,.own 1 2 0 x_9.2.length),(6,.rd false a0.length (a0.flatMap encR56)),(7,.sc (.int .i64 (a0.length : Int))),(8,.sc (.int .i64 x_9.1))],[(1,⟨78,true,x_9.2.flatMap encR56⟩)]⟩) (x := ((0 : Int),([] : List R56))) (fun nx_10 x_9 h => ?_) h
    unfold m37_L1 at h
    refine AWP.seq ?_
    refine AWP.region (.cons (.lss (lt1 rfl) (.tmp rfl) (.tmp rfl))<| ARun.nil _ _ _) ?_
    refine AWP.vc (s' := ⟨[(3,.own 1 2 0 x_9.2.length),(6,.rd false a0.length (a0.flatMap encR56)),(7,.sc (.int .i64 (a0.length : Int))),(8,.sc (.int .i64 x_9.1)),(9,.sc (.bool (decide (x_9.1 < (a0.length : Int)))))],[(1,⟨78,true,x_9.2.flatMap encR56⟩)]⟩) (VC.sub (.c rfl<| .c rfl<| .c rfl<| .c rfl<| .c rfl<| .n _) (.c rfl<| .n _)) ?_
    refine AWP.seq ?_
    refine AWP.cond (.tmp rfl) (fun hc => ?_) (fun hc => ?_)
    · have h := iteT hc h
      refine AWP.skip ?_
      refine AWP.seq ?_
      refine AWP.block ?_
      refine AWP.seq ?_
      obtain ⟨y_11,hy_11,h⟩ := bindS h
      refine AWP.region (.cons (.indexRd (enc := encR56) (lt1 rfl) (.tmp rfl) (.tmp rfl) Try.underlying53 sz57 encR56_len rfl hy_11)<| .cons (.loadRA (out := [.rd false y_11.Pattern.length (y_11.Pattern.flatMap (encI .i64)),.sc (.int .i64 y_11.Count)]) (lt1 rfl) (.tmp rfl) agg57 (Nat.le_of_eq (Eq.symm (encR56_len _))) rfl)<| .cons (.alloc (t := 2) (k := ⟨57,false,[.sc (.slice none 0 0),.sc (.int .i64 (0 : Int))]⟩) (lt1 rfl) (nm rfl) zero57 rfl rfl)<| .cons (.storePA (.tmp rfl) (.tmp rfl) sz57 rfl rfl (le1 rfl) (one_lit rfl) (by intro h; cases h) rfl)<| ARun.nil _ _ _) ?_
      refine AWP.vc (s' := ⟨[(3,.own 1 2 0 x_9.2.length),(6,.rd false a0.length (a0.flatMap encR56)),(7,.sc (.int .i64 (a0.length : Int))),(8,.sc (.int .i64 x_9.1)),(5,.ptr 2 0)],[(2,⟨57,false,[.rd false y_11.Pattern.length (y_11.Pattern.flatMap (encI .i64)),.sc (.int .i64 y_11.Count)]⟩),(1,⟨78,true,x_9.2.flatMap encR56⟩)]⟩) (VC.sub (.c rfl<| .c rfl<| .c rfl<| .c rfl<| .c rfl<| .n _) (.c rfl<| .c rfl<| .n _)) ?_
      obtain ⟨l1_12,hl1_12,h⟩ := bindS h
      refine AWP.region (.cons (.move (lt1 rfl) (.tmp rfl))<| .cons (.loadPA (lt1 rfl) (.tmp rfl) agg57 rfl rfl rfl rfl)<| .cons (.buildSlice (t := 3) (out := ([(R56.mk y_11.Pattern y_11.Count)] : List R56).flatMap encR56) (lt1 rfl) (nm rfl) (.cons (.tmp rfl) (by first | exact ⟨rfl,rfl⟩ | rfl) (.nil)) Try.underlying49 zero78 el78 (by decide) (by decide) rfl (still_all encR56_still _))<| .cons (.app (enc := encR56) (lt1 rfl) (nm rfl) (.tmp rfl) (Src.own (.tmp rfl) rfl (lendAll encR56_len _) (flatMap_length encR56_len _) (one_all encR56_one _) (.inl rfl)) Try.underlying49 ⟨_,Try.underlying49,by intro k hk; cases hk⟩ el78 rfl encR56_len rfl rfl (by decide) hl1_12)<| .cons (.assign (lt1 rfl) (.tmp rfl))<| ARun.nil _ _ _) ?_
      refine AWP.vc (s' := ⟨[(3,.own 1 2 0 l1_12.length),(6,.rd false a0.length (a0.flatMap encR56)),(7,.sc (.int .i64 (a0.length : Int))),(8,.sc (.int .i64 x_9.1))],[(1,⟨78,true,l1_12.flatMap encR56⟩)]⟩) (VC.sub (.c rfl<| .c rfl<| .c rfl<| .c rfl<| .n _) (.c rfl<| .n _)) ?_
      obtain ⟨t8_13,ht8_13,h⟩ := letS h
      refine AWP.region (.cons (.add (lt1 rfl) (.tmp rfl) (.const _ _ _))<| .cons (.move (lt1 rfl) (.tmp rfl))<| ARun.nil _ _ _) ?_
      exact endJ (t8_13,l1_12) h (by subst ht8_13; exact VC.sub (.c rfl<| .c rfl<| .c rfl<| .c rfl<| .n _) (.c rfl<| .n _))
    · have h := iteF hc h
      refine AWP.exit ?_
      exact endJ x_9.2 h (VC.sub (.c rfl<| .n _) (.c rfl<| .n _))
theorem c36 {β1 : Bool} {β2 : Bool} (n : Nat) (a0 : (List R56)) (a1 : (List R56)) {r : Bool} (h : m36 n a0 a1 = some r) : Spec Try.prog 36 [] [.rd β1 a0.length (a0.flatMap encR56),.rd β2 a1.length (a1.flatMap encR56)] [] (.sc (.bool r)) [] := by
  refine Spec.of (fn := Try.f36) Try.func36 Try.ntmps36 rfl rfl (le1 rfl) (fun w0 Zs Zb T0 ι0 => ?_)
  unfold m36 at h
  refine AWP.seq ?_
  refine AWP.region (.cons (.assign (lt1 rfl) (.const _ _ _))<| ARun.nil _ _ _) ?_
  refine AWP.vc (s' := ⟨[(0,.rd β1 a0.length (a0.flatMap encR56)),(1,.rd β2 a1.length (a1.flatMap encR56))],[]⟩) (VC.sub (.c rfl<| .c rfl<| .n _) (.n _)) ?_
  refine AWP.seq ?_
  refine AWP.seq ?_
  refine AWP.region (.cons (.move (lt1 rfl) (.tmp rfl))<| .cons (.lenRd (lt1 rfl) (.tmp rfl) Try.underlying49)<| .cons (.move (lt1 rfl) (.tmp rfl))<| .cons (.lenRd (lt1 rfl) (.tmp rfl) Try.underlying49)<| .cons (.neq (lt1 rfl) (.tmp rfl) (.tmp rfl))<| ARun.nil _ _ _) ?_
  refine AWP.vc (s' := ⟨[(0,.rd β1 a0.length (a0.flatMap encR56)),(1,.rd β2 a1.length (a1.flatMap encR56)),(10,.sc (.bool (!decide ((a0.length : Int) = (a1.length : Int)))))],[]⟩) (VC.sub (.c rfl<| .c rfl<| .c rfl<| .n _) (.n _)) ?_
  refine AWP.cond (.tmp rfl) (fun hc => ?_) (fun hc => ?_)
  · have h := iteT hc h
    refine AWP.seq ?_
    refine AWP.region (.cons (.assign (lt1 rfl) (.const _ _ _))<| ARun.nil _ _ _) ?_
    refine AWP.ret ?_
    obtain rfl := Option.some.inj h
    refine retJ (Res.vc (s' := ⟨[(4,.sc (.bool false))],[]⟩) (VC.sub (.c rfl<| .n _) (.n _)) ?_)
    refine Res.drop (H := []) rfl ?_
    exact Res.of rfl (.cons (.tmp rfl) (.nil)) rfl rfl
  · have h := iteF hc h
    refine AWP.skip ?_
    refine AWP.seq ?_
    refine AWP.seq ?_
    refine AWP.region (.cons (.assign (lt1 rfl) (.const _ _ _))<| ARun.nil _ _ _) ?_
    refine AWP.vc (s' := ⟨[(0,.rd β1 a0.length (a0.flatMap encR56)),(1,.rd β2 a1.length (a1.flatMap encR56)),(5,.sc (.int .i64 (0 : Int)))],[]⟩) (VC.sub (.c rfl<| .c rfl<| .c rfl<| .n _) (.n _)) ?_
    refine AWP.joinB' (S := fun p_16 : Unit => ⟨[],[]⟩) h (fun p_16 h => ?_) (fun k_17 h => ?_)
    · refine AWP.seq ?_
      refine AWP.region (.cons (.assign (lt1 rfl) (.const _ _ _))<| ARun.nil _ _ _) ?_
      refine AWP.ret ?_
      obtain rfl := Option.some.inj h
      refine retJ (Res.vc (s' := ⟨[(4,.sc (.bool true))],[]⟩) (VC.sub (.c rfl<| .n _) (.n _)) ?_)
      refine Res.drop (H := []) rfl ?_
      exact Res.of rfl (.cons (.tmp rfl) (.nil)) rfl rfl
    · refine AWP.vc (s' := ⟨[(0,.rd β1 a0.length (a0.flatMap encR56)),(1,.rd β2 a1.length (a1.flatMap encR56)),(5,.sc (.int .i64 (0 : Int)))],[]⟩) (VC.sub (.c rfl<| .c rfl<| .c rfl<| .n _) (.n _)) ?_
      refine AWP.loopM (S := fun x_8 : Int => ⟨[(0,.rd β1 a0.length (a0.flatMap encR56)),(1,.rd β2 a1.length (a1.flatMap encR56)),(5,.sc (.int .i64 x_8))],[]⟩) (x := (0 : Int)) (fun nx_9 x_8 h => ?_) h
      unfold m36_L1 at h
      refine AWP.seq ?_
      refine AWP.seq ?_
      refine AWP.region (.cons (.move (lt1 rfl) (.tmp rfl))<| .cons (.move (lt1 rfl) (.tmp rfl))<| .cons (.lenRd (lt1 rfl) (.tmp rfl) Try.underlying49)<| .cons (.lss (lt1 rfl) (.tmp rfl) (.tmp rfl))<| ARun.nil _ _ _) ?_
      refine AWP.vc (s' := ⟨[(0,.rd β1 a0.length (a0.flatMap encR56)),(1,.rd β2 a1.length (a1.flatMap encR56)),(5,.sc (.int .i64 x_8)),(14,.sc (.bool (decide (x_8 < (a0.length : Int)))))],[]⟩) (VC.sub (.c rfl<| .c rfl<| .c rfl<| .c rfl<| .n _) (.n _)) ?_
      refine AWP.cond (.tmp rfl) (fun hc => ?_) (fun hc => ?_)
      · have h := iteT hc h
        refine AWP.skip ?_
        refine AWP.seq ?_
        refine AWP.block ?_
        refine AWP.seq ?_
        obtain ⟨y_10,hy_10,h⟩ := bindS h
        obtain ⟨y_11,hy_11,h⟩ := bindS h
        obtain ⟨y_12,hy_12,h⟩ := bindS h
        obtain ⟨y_13,hy_13,h⟩ := bindS h
        obtain ⟨y_14,hy_14,h⟩ := bindS h
        refine AWP.draw (s' := ⟨[(0,.rd β1 a0.length (a0.flatMap encR56)),(1,.rd β2 a1.length (a1.flatMap encR56)),(5,.sc (.int .i64 x_8)),(41,.sc (.bool ((!decide (y_10.Count = y_11.Count)) || (!y_14))))],[]⟩) mixed [⟨0,.rd β1 a0.length (a0.flatMap encR56),none,[]⟩,⟨1,.rd β2 a1.length (a1.flatMap encR56),none,[]⟩,⟨5,.sc (.int .i64 x_8),none,[]⟩,⟨14,.sc (.bool (decide (x_8 < (a0.length : Int)))),none,[]⟩,⟨17,.rd β1 a0.length (a0.flatMap encR56),some 0,[]⟩,⟨18,.sc (.int .i64 x_8),some 1,[]⟩,⟨19,.rptr β1 [.rd false y_10.Pattern.length (y_10.Pattern.flatMap (encI .i64)),.sc (.int .i64 y_10.Count)],some 2,[]⟩,⟨20,.rptr β1 [.sc (.int .i64 y_10.Count)],some 3,[]⟩,⟨21,.sc (.int .i64 y_10.Count),some 4,[]⟩,⟨22,.rd β2 a1.length (a1.flatMap encR56),some 5,[]⟩,⟨23,.sc (.int .i64 x_8),some 6,[]⟩,⟨24,.rptr β2 [.rd false y_11.Pattern.length (y_11.Pattern.flatMap (encI .i64)),.sc (.int .i64 y_11.Count)],some 7,[]⟩,⟨25,.rptr β2 [.sc (.int .i64 y_11.Count)],some 8,[]⟩,⟨26,.sc (.int .i64 y_11.Count),some 9,[]⟩,⟨27,.sc (.bool (!decide (y_10.Count = y_11.Count))),some 10,[]⟩,⟨28,.sc (.bool (!decide (y_10.Count = y_11.Count))),some 11,[]⟩,⟨29,.gd (!(!decide (y_10.Count = y_11.Count))) (.rd β1 a0.length (a0.flatMap encR56)),some 12,[]⟩,⟨30,.gd (!(!decide (y_10.Count = y_11.Count))) (.sc (.int .i64 x_8)),some 13,[]⟩,⟨31,.gd (!(!decide (y_10.Count = y_11.Count))) (.rptr β1 [.rd false y_12.Pattern.length (y_12.Pattern.flatMap (encI .i64)),.sc (.int .i64 y_12.Count)]),some 14,[]⟩,⟨32,.gd (!(!decide (y_10.Count = y_11.Count))) (.rptr β1 [.rd false y_12.Pattern.length (y_12.Pattern.flatMap (encI .i64)),.sc (.int .i64 y_12.Count)]),some 15,[]⟩,⟨33,.gd (!(!decide (y_10.Count = y_11.Count))) (.rd β1 y_12.Pattern.length (y_12.Pattern.flatMap (encI .i64))),some 16,[]⟩,⟨34,.gd (!(!decide (y_10.Count = y_11.Count))) (.rd β2 a1.length (a1.flatMap encR56)),some 17,[]⟩,⟨35,.gd (!(!decide (y_10.Count = y_11.Count))) (.sc (.int .i64 x_8)),some 18,[]⟩,⟨36,.gd (!(!decide (y_10.Count = y_11.Count))) (.rptr β2 [.rd false y_13.Pattern.length (y_13.Pattern.flatMap (encI .i64)),.sc (.int .i64 y_13.Count)]),some 19,[]⟩,⟨37,.gd (!(!decide (y_10.Count = y_11.Count))) (.rptr β2 [.rd false y_13.Pattern.length (y_13.Pattern.flatMap (encI .i64)),.sc (.int .i64 y_13.Count)]),some 20,[]⟩,⟨38,.gd (!(!decide (y_10.Count = y_11.Count))) (.rd β2 y_13.Pattern.length (y_13.Pattern.flatMap (encI .i64))),some 21,[]⟩,⟨39,.gd (!(!decide (y_10.Count = y_11.Count))) (.sc (.bool y_14)),some 22,[]⟩,⟨40,.gd (!(!decide (y_10.Count = y_11.Count))) (.sc (.bool (!y_14))),some 23,[]⟩,⟨41,.sc (.bool ((!decide (y_10.Count = y_11.Count)) || (!y_14))),some 24,[]⟩] [⟨[0],0,0,some (17,.rd β1 a0.length (a0.flatMap encR56)),[]⟩,⟨[2],0,0,some (18,.sc (.int .i64 x_8)),[]⟩,⟨[4,5],0,0,some (19,.rptr β1 [.rd false y_10.Pattern.length (y_10.Pattern.flatMap (encI .i64)),.sc (.int .i64 y_10.Count)]),[]⟩,⟨[6],0,0,some (20,.rptr β1 [.sc (.int .i64 y_10.Count)]),[]⟩,⟨[7],0,0,some (21,.sc (.int .i64 y_10.Count)),[]⟩,⟨[1],0,0,some (22,.rd β2 a1.length (a1.flatMap encR56)),[]⟩,⟨[2],0,0,some (23,.sc (.int .i64 x_8)),[]⟩,⟨[9,10],0,0,some (24,.rptr β2 [.rd false y_11.Pattern.length (y_11.Pattern.flatMap (encI .i64)),.sc (.int .i64 y_11.Count)]),[]⟩,⟨[11],0,0,some (25,.rptr β2 [.sc (.int .i64 y_11.Count)]),[]⟩,⟨[12],0,0,some (26,.sc (.int .i64 y_11.Count)),[]⟩,⟨[8,13],0,0,some (27,.sc (.bool (!decide (y_10.Count = y_11.Count)))),[]⟩,⟨[14],0,0,some (28,.sc (.bool (!decide (y_10.Count = y_11.Count)))),[]⟩,⟨[15,0],0,0,some (29,.gd (!(!decide (y_10.Count = y_11.Count))) (.rd β1 a0.length (a0.flatMap encR56))),[]⟩,⟨[15,2],0,0,some (30,.gd (!(!decide (y_10.Count = y_11.Count))) (.sc (.int .i64 x_8))),[]⟩,⟨[15,16,17],0,0,some (31,.gd (!(!decide (y_10.Count = y_11.Count))) (.rptr β1 [.rd false y_12.Pattern.length (y_12.Pattern.flatMap (encI .i64)),.sc (.int .i64 y_12.Count)])),[]⟩,⟨[15,18],0,0,some (32,.gd (!(!decide (y_10.Count = y_11.Count))) (.rptr β1 [.rd false y_12.Pattern.length (y_12.Pattern.flatMap (encI .i64)),.sc (.int .i64 y_12.Count)])),[]⟩,⟨[15,19],0,0,some (33,.gd (!(!decide (y_10.Count = y_11.Count))) (.rd β1 y_12.Pattern.length (y_12.Pattern.flatMap (encI .i64)))),[]⟩,⟨[15,1],0,0,some (34,.gd (!(!decide (y_10.Count = y_11.Count))) (.rd β2 a1.length (a1.flatMap encR56))),[]⟩,⟨[15,2],0,0,some (35,.gd (!(!decide (y_10.Count = y_11.Count))) (.sc (.int .i64 x_8))),[]⟩,⟨[15,21,22],0,0,some (36,.gd (!(!decide (y_10.Count = y_11.Count))) (.rptr β2 [.rd false y_13.Pattern.length (y_13.Pattern.flatMap (encI .i64)),.sc (.int .i64 y_13.Count)])),[]⟩,⟨[15,23],0,0,some (37,.gd (!(!decide (y_10.Count = y_11.Count))) (.rptr β2 [.rd false y_13.Pattern.length (y_13.Pattern.flatMap (encI .i64)),.sc (.int .i64 y_13.Count)])),[]⟩,⟨[15,24],0,0,some (38,.gd (!(!decide (y_10.Count = y_11.Count))) (.rd β2 y_13.Pattern.length (y_13.Pattern.flatMap (encI .i64)))),[]⟩,⟨[15,20,25],0,0,some (39,.gd (!(!decide (y_10.Count = y_11.Count))) (.sc (.bool y_14))),[]⟩,⟨[15,26],0,0,some (40,.gd (!(!decide (y_10.Count = y_11.Count))) (.sc (.bool (!y_14)))),[]⟩,⟨[15,27],0,0,some (41,.sc (.bool ((!decide (y_10.Count = y_11.Count)) || (!y_14)))),[]⟩] [] [[]] [[],[],[0,1],[0,1,2],[0,1,2,3],[],[],[5,6],[5,6,7],[5,6,7,8],[0,1,2,3,4,5,6,7,8,9],[0,1,2,3,4,5,6,7,8,9,10],[0,1,2,3,4,5,6,7,8,9,10,11],[0,1,2,3,4,5,6,7,8,9,10,11],[0,1,2,3,4,5,6,7,8,9,10,11,12,13],[0,1,2,3,4,5,6,7,8,9,10,11,12,13,14],[0,1,2,3,4,5,6,7,8,9,10,11,12,13,14,15],[0,1,2,3,4,5,6,7,8,9,10,11],[0,1,2,3,4,5,6,7,8,9,10,11],[0,1,2,3,4,5,6,7,8,9,10,11,17,18],[0,1,2,3,4,5,6,7,8,9,10,11,17,18,19],[0,1,2,3,4,5,6,7,8,9,10,11,17,18,19,20],[0,1,2,3,4,5,6,7,8,9,10,11,12,13,14,15,16,17,18,19,20,21],[0,1,2,3,4,5,6,7,8,9,10,11,12,13,14,15,16,17,18,19,20,21,22],[0,1,2,3,4,5,6,7,8,9,10,11,12,13,14,15,16,17,18,19,20,21,22,23]] (by kernel_rfl) (by kernel_rfl) (BornL.ok (.o<| .o<| .o<| .o<| .b rfl rfl<| .b rfl rfl<| .b rfl rfl<| .b rfl rfl<| .b rfl rfl<| .b rfl rfl<| .b rfl rfl<| .b rfl rfl<| .b rfl rfl<| .b rfl rfl<| .b rfl rfl<| .b rfl rfl<| .b rfl rfl<| .b rfl rfl<| .b rfl rfl<| .b rfl rfl<| .b rfl rfl<| .b rfl rfl<| .b rfl rfl<| .b rfl rfl<| .b rfl rfl<| .b rfl rfl<| .b rfl rfl<| .b rfl rfl<| .b rfl rfl<| .n)) (BaseL.ok (.o rfl<| .o rfl<| .o rfl<| .o rfl<| .b<| .b<| .b<| .b<| .b<| .b<| .b<| .b<| .b<| .b<| .b<| .b<| .b<| .b<| .b<| .b<| .b<| .b<| .b<| .b<| .b<| .b<| .b<| .b<| .b<| .n)) rfl (by decide) (allLt rfl) (.pure rfl (fun H => .put (fun E hE => .move (lt1 rfl) (.tmp (hE.at (k := 0) rfl))))<| .pure rfl (fun H => .put (fun E hE => .move (lt1 rfl) (.tmp (hE.at (k := 0) rfl))))<| .pure rfl (fun H => .put (fun E hE => .indexRd (enc := encR56) (lt1 rfl) (.tmp (hE.at (k := 0) rfl)) (.tmp (hE.at (k := 1) rfl)) Try.underlying49 sz78 encR56_len rfl hy_10))<| .pure rfl (fun H => .put (fun E hE => .fieldR (lt1 rfl) (.tmp (hE.at (k := 0) rfl)) fld78_1 rfl))<| .pure rfl (fun H => .put (fun E hE => .loadR (v := .sc (.int .i64 y_10.Count)) (lt1 rfl) (.tmp (hE.at (k := 0) rfl)) one3 rfl))<| .pure rfl (fun H => .put (fun E hE => .move (lt1 rfl) (.tmp (hE.at (k := 0) rfl))))<| .pure rfl (fun H => .put (fun E hE => .move (lt1 rfl) (.tmp (hE.at (k := 0) rfl))))<| .pure rfl (fun H => .put (fun E hE => .indexRd (enc := encR56) (lt1 rfl) (.tmp (hE.at (k := 0) rfl)) (.tmp (hE.at (k := 1) rfl)) Try.underlying49 sz78 encR56_len rfl hy_11))<| .pure rfl (fun H => .put (fun E hE => .fieldR (lt1 rfl) (.tmp (hE.at (k := 0) rfl)) fld78_1 rfl))<| .pure rfl (fun H => .put (fun E hE => .loadR (v := .sc (.int .i64 y_11.Count)) (lt1 rfl) (.tmp (hE.at (k := 0) rfl)) one3 rfl))<| .pure rfl (fun H => .put (fun E hE => .neq (lt1 rfl) (.tmp (hE.at (k := 0) rfl)) (.tmp (hE.at (k := 1) rfl))))<| .pure rfl (fun H => .put (fun E hE => .move (lt1 rfl) (.tmp (hE.at (k := 0) rfl))))<| .pure rfl (fun H => .gput (b := (!decide (y_10.Count = y_11.Count))) (want := false) (j := 11) (dj := 28) rfl (lt1 rfl) (lt1 rfl) (fun E hE => hE.at (k := 0) rfl) (fun hg E hE => .move (lt1 rfl) (.tmp (hE.at (k := 1) rfl))))<| .pure rfl (fun H => .gput (b := (!decide (y_10.Count = y_11.Count))) (want := false) (j := 11) (dj := 28) rfl (lt1 rfl) (lt1 rfl) (fun E hE => hE.at (k := 0) rfl) (fun hg E hE => .move (lt1 rfl) (.tmp (hE.at (k := 1) rfl))))<| .pure rfl (fun H => .gput (b := (!decide (y_10.Count = y_11.Count))) (want := false) (j := 11) (dj := 28) rfl (lt1 rfl) (lt1 rfl) (fun E hE => hE.at (k := 0) rfl) (fun hg E hE => .indexRd (enc := encR56) (lt1 rfl) (.gd hg (.tmp (hE.at (k := 1) rfl))) (.gd hg (.tmp (hE.at (k := 2) rfl))) Try.underlying49 sz78 encR56_len rfl (gdB hy_12 hg)))<| .pure rfl (fun H => .gput (b := (!decide (y_10.Count = y_11.Count))) (want := false) (j := 11) (dj := 28) rfl (lt1 rfl) (lt1 rfl) (fun E hE => hE.at (k := 0) rfl) (fun hg E hE => .fieldR (sub := [.rd false y_12.Pattern.length (y_12.Pattern.flatMap (encI .i64)),.sc (.int .i64 y_12.Count)]) (lt1 rfl) (.gd hg (.tmp (hE.at (k := 1) rfl))) fld78_0 rfl))<| .pure rfl (fun H => .gput (b := (!decide (y_10.Count = y_11.Count))) (want := false) (j := 11) (dj := 28) rfl (lt1 rfl) (lt1 rfl) (fun E hE => hE.at (k := 0) rfl) (fun hg E hE => .loadR (v := .rd β1 y_12.Pattern.length (y_12.Pattern.flatMap (encI .i64))) (lt1 rfl) (.gd hg (.tmp (hE.at (k := 1) rfl))) one22 rfl))<| .pure rfl (fun H => .gput (b := (!decide (y_10.Count = y_11.Count))) (want := false) (j := 11) (dj := 28) rfl (lt1 rfl) (lt1 rfl) (fun E hE => hE.at (k := 0) rfl) (fun hg E hE => .move (lt1 rfl) (.tmp (hE.at (k := 1) rfl))))<| .pure rfl (fun H => .gput (b := (!decide (y_10.Count = y_11.Count))) (want := false) (j := 11) (dj := 28) rfl (lt1 rfl) (lt1 rfl) (fun E hE => hE.at (k := 0) rfl) (fun hg E hE => .move (lt1 rfl) (.tmp (hE.at (k := 1) rfl))))<| .pure rfl (fun H => .gput (b := (!decide (y_10.Count = y_11.Count))) (want := false) (j := 11) (dj := 28) rfl (lt1 rfl) (lt1 rfl) (fun E hE => hE.at (k := 0) rfl) (fun hg E hE => .indexRd (enc := encR56) (lt1 rfl) (.gd hg (.tmp (hE.at (k := 1) rfl))) (.gd hg (.tmp (hE.at (k := 2) rfl))) Try.underlying49 sz78 encR56_len rfl (gdB hy_13 hg)))<| .pure rfl (fun H => .gput (b := (!decide (y_10.Count = y_11.Count))) (want := false) (j := 11) (dj := 28) rfl (lt1 rfl) (lt1 rfl) (fun E hE => hE.at (k := 0) rfl) (fun hg E hE => .fieldR (sub := [.rd false y_13.Pattern.length (y_13.Pattern.flatMap (encI .i64)),.sc (.int .i64 y_13.Count)]) (lt1 rfl) (.gd hg (.tmp (hE.at (k := 1) rfl))) fld78_0 rfl))<| .pure rfl (fun H => .gput (b := (!decide (y_10.Count = y_11.Count))) (want := false) (j := 11) (dj := 28) rfl (lt1 rfl) (lt1 rfl) (fun E hE => hE.at (k := 0) rfl) (fun hg E hE => .loadR (v := .rd β2 y_13.Pattern.length (y_13.Pattern.flatMap (encI .i64))) (lt1 rfl) (.gd hg (.tmp (hE.at (k := 1) rfl))) one22 rfl))<| .pure rfl (fun H => .gput (b := (!decide (y_10.Count = y_11.Count))) (want := false) (j := 11) (dj := 28) rfl (lt1 rfl) (lt1 rfl) (fun E hE => hE.at (k := 0) rfl) (fun hg E hE => .call0 (bw := false) (lt1 rfl) (c34 (β1 := β1) (β2 := β2) n y_12.Pattern y_13.Pattern (gdB hy_14 hg)) (.cons (.gd hg (.tmp (hE.at (k := 1) rfl))) (.ren rfl) (.cons (.gd hg (.tmp (hE.at (k := 2) rfl))) (.ren rfl) (.nil))) rfl))<| .pure rfl (fun H => .gput (b := (!decide (y_10.Count = y_11.Count))) (want := false) (j := 11) (dj := 28) rfl (lt1 rfl) (lt1 rfl) (fun E hE => hE.at (k := 0) rfl) (fun hg E hE => .not (lt1 rfl) (.gd hg (.tmp (hE.at (k := 1) rfl)))))<| .pure rfl (fun H => .put (fun E hE => .pickOr (lt1 rfl) (.tmp (hE.at (k := 0) rfl)) (.const _ _ _) (.tmp (hE.at (k := 1) rfl))))<| .nil _) (fun E hE => .c (DInv.at hE (k := 0) rfl rfl rfl)<| .c (DInv.at hE (k := 1) rfl rfl rfl)<| .c (DInv.at hE (k := 2) rfl rfl rfl)<| .c (DInv.at hE (k := 28) rfl rfl rfl)<| .n _) rfl ?_
        refine AWP.vc (s' := ⟨[(0,.rd β1 a0.length (a0.flatMap encR56)),(1,.rd β2 a1.length (a1.flatMap encR56)),(5,.sc (.int .i64 x_8)),(41,.sc (.bool ((!decide (y_10.Count = y_11.Count)) || (!y_14))))],[]⟩) (VC.sub (.c rfl<| .c rfl<| .c rfl<| .c rfl<| .n _) (.n _)) ?_
        refine AWP.cond (.tmp rfl) (fun hc => ?_) (fun hc => ?_)
        · have h := iteT hc h
          refine AWP.seq ?_
          refine AWP.region (.cons (.assign (lt1 rfl) (.const _ _ _))<| ARun.nil _ _ _) ?_
          refine AWP.ret ?_
          obtain rfl := Option.some.inj h
          refine retJ (Res.vc (s' := ⟨[(4,.sc (.bool false))],[]⟩) (VC.sub (.c rfl<| .n _) (.n _)) ?_)
          refine Res.drop (H := []) rfl ?_
          exact Res.of rfl (.cons (.tmp rfl) (.nil)) rfl rfl
        · have h := iteF hc h
          refine AWP.skip ?_
          obtain ⟨t5_15,ht5_15,h⟩ := letS h
          refine AWP.region (.cons (.move (lt1 rfl) (.tmp rfl))<| .cons (.add (lt1 rfl) (.tmp rfl) (.const _ _ _))<| .cons (.assign (lt1 rfl) (.tmp rfl))<| ARun.nil _ _ _) ?_
          exact endJ t5_15 h (by subst ht5_15; exact VC.sub (.c rfl<| .c rfl<| .c rfl<| .n _) (.n _))
      · have h := iteF hc h
        refine AWP.exit ?_
        exact endJ () h (VC.sub (.n _) (.n _))
theorem c7 {β1 : Bool} {β2 : Bool} (n : Nat) (a0 : R23) (a1 : (List R56)) (a2 : Int) {r : Bool} (h : m7 n a0 a1 a2 = some r) : Spec Try.prog 7 [] [.agg [.rd β1 a0.Lengths.length (a0.Lengths.flatMap (encI .i64)),.rd β2 a0.Demand.length (a0.Demand.flatMap (encI .i64)),.sc (.int .i64 a0.Stock),.sc (.int .i64 a0.Kerf)],.rd false a1.length (a1.flatMap encR56),.sc (.int .u8 a2)] [] (.sc (.bool r)) [] := by
  refine Spec.of (fn := Try.f7) Try.func7 Try.ntmps7 rfl rfl (le1 rfl) (fun w0 Zs Zb T0 ι0 => ?_)
  unfold m7 at h
  refine AWP.seq ?_
  refine AWP.region (.cons (.box (t := 1) (n := 4) (lt1 rfl) (nm rfl) (.tmp rfl) (by first | exact ⟨rfl,rfl⟩ | rfl) rfl)<| .cons (.assign (lt1 rfl) (.const _ _ _))<| ARun.nil _ _ _) ?_
  refine AWP.vc (s' := ⟨[(1,.rd false a1.length (a1.flatMap encR56)),(2,.sc (.int .u8 a2)),(3,.ptr 1 0)],[(1,⟨24,false,[.rd β1 a0.Lengths.length (a0.Lengths.flatMap (encI .i64)),.rd β2 a0.Demand.length (a0.Demand.flatMap (encI .i64)),.sc (.int .i64 a0.Stock),.sc (.int .i64 a0.Kerf)]⟩)]⟩) (VC.sub (.c rfl<| .c rfl<| .c rfl<| .n _) (.c rfl<| .n _)) ?_
  refine AWP.seq ?_
  refine AWP.seq ?_
  obtain ⟨y_1,hy_1,h⟩ := bindS h
  obtain ⟨y_2,hy_2,h⟩ := bindS h
  obtain ⟨y_3,hy_3,h⟩ := bindS h
  obtain ⟨y_4,hy_4,h⟩ := bindS h
  refine AWP.region (.cons (.call0 (bw := false) (lt1 rfl) (c10 n hy_1) (.nil) rfl)<| .cons (.not (lt1 rfl) (.tmp rfl))<| .cons (.move (lt1 rfl) (.tmp rfl))<| .guard (j := 2) (dj := 17) rfl (lt1 rfl) rfl (lt1 rfl) (fun hg => .loadPA (lt1 rfl) (.tmp rfl) agg24 rfl rfl rfl rfl)<| .guard (j := 2) (dj := 17) rfl (lt1 rfl) rfl (lt1 rfl) (fun hg => .call0 (bw := false) (lt1 rfl) (c11 (β1 := β1) (β2 := β2) n (R23.mk a0.Lengths a0.Demand a0.Stock a0.Kerf) (gdB hy_2 hg)) (.cons (.gd hg (.tmp rfl)) (.ren rfl) (.nil)) rfl)<| .guard (j := 2) (dj := 17) rfl (lt1 rfl) rfl (lt1 rfl) (fun hg => .not (lt1 rfl) (.gd hg (.tmp rfl)))<| .cons (.pickOr (lt1 rfl) (.tmp rfl) (.const _ _ _) (.tmp rfl))<| .cons (.move (lt1 rfl) (.tmp rfl))<| .guard (j := 7) (dj := 22) rfl (lt1 rfl) rfl (lt1 rfl) (fun hg => .move (lt1 rfl) (.tmp rfl))<| .guard (j := 7) (dj := 22) rfl (lt1 rfl) rfl (lt1 rfl) (fun hg => .call0 (bw := false) (lt1 rfl) (c29 (β1 := false) n a1 (gdB hy_3 hg)) (.cons (.gd hg (.tmp rfl)) (.ren rfl) (.nil)) rfl)<| .guard (j := 7) (dj := 22) rfl (lt1 rfl) rfl (lt1 rfl) (fun hg => .not (lt1 rfl) (.gd hg (.tmp rfl)))<| .cons (.pickOr (lt1 rfl) (.tmp rfl) (.const _ _ _) (.tmp rfl))<| .cons (.move (lt1 rfl) (.tmp rfl))<| .guard (j := 12) (dj := 27) rfl (lt1 rfl) rfl (lt1 rfl) (fun hg => .loadPA (lt1 rfl) (.tmp rfl) agg24 rfl rfl rfl rfl)<| .guard (j := 12) (dj := 27) rfl (lt1 rfl) rfl (lt1 rfl) (fun hg => .move (lt1 rfl) (.tmp rfl))<| .guard (j := 12) (dj := 27) rfl (lt1 rfl) rfl (lt1 rfl) (fun hg => .call0 (bw := false) (lt1 rfl) (c30 (β1 := β1) (β2 := β2) (β3 := false) n (R23.mk a0.Lengths a0.Demand a0.Stock a0.Kerf) a1 (gdB hy_4 hg)) (.cons (.gd hg (.tmp rfl)) (.ren rfl) (.cons (.gd hg (.tmp rfl)) (.ren rfl) (.nil))) rfl)<| .guard (j := 12) (dj := 27) rfl (lt1 rfl) rfl (lt1 rfl) (fun hg => .not (lt1 rfl) (.gd hg (.tmp rfl)))<| .cons (.pickOr (lt1 rfl) (.tmp rfl) (.const _ _ _) (.tmp rfl))<| ARun.nil _ _ _) ?_
  refine AWP.vc (s' := ⟨[(1,.rd false a1.length (a1.flatMap encR56)),(2,.sc (.int .u8 a2)),(3,.ptr 1 0),(32,.sc (.bool ((((!y_1) || (!y_2)) || (!y_3)) || (!y_4))))],[(1,⟨24,false,[.rd β1 a0.Lengths.length (a0.Lengths.flatMap (encI .i64)),.rd β2 a0.Demand.length (a0.Demand.flatMap (encI .i64)),.sc (.int .i64 a0.Stock),.sc (.int .i64 a0.Kerf)]⟩)]⟩) (VC.sub (.c rfl<| .c rfl<| .c rfl<| .c rfl<| .n _) (.c rfl<| .n _)) ?_
  refine AWP.cond (.tmp rfl) (fun hc => ?_) (fun hc => ?_)
  · have h := iteT hc h
    refine AWP.seq ?_
    obtain ⟨y_5,hy_5,h⟩ := bindS h
    refine AWP.region (.cons (.call0 (bw := false) (lt1 rfl) (c10 n hy_5) (.nil) rfl)<| .cons (.assign (lt1 rfl) (.tmp rfl))<| ARun.nil _ _ _) ?_
    refine AWP.ret ?_
    obtain rfl := Option.some.inj h
    refine retJ (Res.vc (s' := ⟨[(6,.sc (.bool y_5))],[]⟩) (VC.sub (.c rfl<| .n _) (.n _)) ?_)
    refine Res.drop (H := []) rfl ?_
    exact Res.of rfl (.cons (.tmp rfl) (.nil)) rfl rfl
  · have h := iteF hc h
    refine AWP.skip ?_
    refine AWP.seq ?_
    obtain ⟨y_6,hy_6,h⟩ := bindS h
    obtain ⟨y_7,hy_7,h⟩ := bindS h
    refine AWP.region (.cons (.move (lt1 rfl) (.tmp rfl))<| .cons (.call0 (bw := false) (lt1 rfl) (c32 n a1 hy_6) (.cons (.tmp rfl) (.ren rfl) (.nil)) rfl)<| .cons (.call0 (bw := false) (lt1 rfl) (c31 n y_6 hy_7) (.cons (.tmp rfl) (.ren rfl) (.nil)) rfl)<| .cons (.assign (lt1 rfl) (.tmp rfl))<| ARun.nil _ _ _) ?_
    refine AWP.vc (s' := ⟨[(1,.rd false a1.length (a1.flatMap encR56)),(2,.sc (.int .u8 a2)),(3,.ptr 1 0),(7,.rd false y_7.length (y_7.flatMap encR56))],[(1,⟨24,false,[.rd β1 a0.Lengths.length (a0.Lengths.flatMap (encI .i64)),.rd β2 a0.Demand.length (a0.Demand.flatMap (encI .i64)),.sc (.int .i64 a0.Stock),.sc (.int .i64 a0.Kerf)]⟩)]⟩) (VC.sub (.c rfl<| .c rfl<| .c rfl<| .c rfl<| .n _) (.c rfl<| .n _)) ?_
    refine AWP.seq ?_
    refine AWP.seq ?_
    refine AWP.region (.cons (.assign (lt1 rfl) (.const _ _ _))<| ARun.nil _ _ _) ?_
    refine AWP.vc (s' := ⟨[(1,.rd false a1.length (a1.flatMap encR56)),(2,.sc (.int .u8 a2)),(3,.ptr 1 0),(7,.rd false y_7.length (y_7.flatMap encR56)),(8,.sc (.int .i64 (1 : Int)))],[(1,⟨24,false,[.rd β1 a0.Lengths.length (a0.Lengths.flatMap (encI .i64)),.rd β2 a0.Demand.length (a0.Demand.flatMap (encI .i64)),.sc (.int .i64 a0.Stock),.sc (.int .i64 a0.Kerf)]⟩)]⟩) (VC.sub (.c rfl<| .c rfl<| .c rfl<| .c rfl<| .c rfl<| .n _) (.c rfl<| .n _)) ?_
    refine AWP.joinB' (S := fun p_19 : Unit => ⟨[(1,.rd false a1.length (a1.flatMap encR56)),(2,.sc (.int .u8 a2)),(3,.ptr 1 0),(7,.rd false y_7.length (y_7.flatMap encR56))],[(1,⟨24,false,[.rd β1 a0.Lengths.length (a0.Lengths.flatMap (encI .i64)),.rd β2 a0.Demand.length (a0.Demand.flatMap (encI .i64)),.sc (.int .i64 a0.Stock),.sc (.int .i64 a0.Kerf)]⟩)]⟩) h (fun p_19 h => ?_) (fun k_20 h => ?_)
    · refine AWP.seq ?_
      obtain ⟨y_21,hy_21,h⟩ := bindS h
      obtain ⟨y_22,hy_22,h⟩ := bindS h
      refine AWP.draw (s' := ⟨[(1,.rd false a1.length (a1.flatMap encR56)),(2,.sc (.int .u8 a2)),(3,.ptr 1 0),(7,.rd false y_7.length (y_7.flatMap encR56)),(9,.rd false y_22.1.length (y_22.1.flatMap (encI .i64))),(10,.sc (.int .i64 y_22.2))],[(1,⟨24,false,[.rd β1 a0.Lengths.length (a0.Lengths.flatMap (encI .i64)),.rd β2 a0.Demand.length (a0.Demand.flatMap (encI .i64)),.sc (.int .i64 a0.Stock),.sc (.int .i64 a0.Kerf)]⟩)]⟩) mixed [⟨1,.rd false a1.length (a1.flatMap encR56),none,[]⟩,⟨2,.sc (.int .u8 a2),none,[]⟩,⟨3,.ptr 1 0,none,[]⟩,⟨7,.rd false y_7.length (y_7.flatMap encR56),none,[]⟩,⟨57,.agg [.rd β1 a0.Lengths.length (a0.Lengths.flatMap (encI .i64)),.rd β2 a0.Demand.length (a0.Demand.flatMap (encI .i64)),.sc (.int .i64 a0.Stock),.sc (.int .i64 a0.Kerf)],some 0,[]⟩,⟨58,.rd false a1.length (a1.flatMap encR56),some 1,[]⟩,⟨59,.rd false y_21.length (y_21.flatMap encR56),some 2,[]⟩,⟨60,.tup [.rd false y_22.1.length (y_22.1.flatMap (encI .i64)),.sc (.int .i64 y_22.2)],some 3,[]⟩,⟨56,.tup [.rd false y_22.1.length (y_22.1.flatMap (encI .i64)),.sc (.int .i64 y_22.2)],some 4,[]⟩,⟨61,.rd false y_22.1.length (y_22.1.flatMap (encI .i64)),some 5,[]⟩,⟨62,.sc (.int .i64 y_22.2),some 6,[]⟩,⟨9,.rd false y_22.1.length (y_22.1.flatMap (encI .i64)),some 7,[]⟩,⟨10,.sc (.int .i64 y_22.2),some 8,[]⟩] [⟨[2],0,0,some (57,.agg [.rd β1 a0.Lengths.length (a0.Lengths.flatMap (encI .i64)),.rd β2 a0.Demand.length (a0.Demand.flatMap (encI .i64)),.sc (.int .i64 a0.Stock),.sc (.int .i64 a0.Kerf)]),[]⟩,⟨[0],0,0,some (58,.rd false a1.length (a1.flatMap encR56)),[]⟩,⟨[5],0,0,some (59,.rd false y_21.length (y_21.flatMap encR56)),[]⟩,⟨[4,6],0,0,some (60,.tup [.rd false y_22.1.length (y_22.1.flatMap (encI .i64)),.sc (.int .i64 y_22.2)]),[]⟩,⟨[7],0,0,some (56,.tup [.rd false y_22.1.length (y_22.1.flatMap (encI .i64)),.sc (.int .i64 y_22.2)]),[]⟩,⟨[8],0,0,some (61,.rd false y_22.1.length (y_22.1.flatMap (encI .i64))),[]⟩,⟨[8],0,0,some (62,.sc (.int .i64 y_22.2)),[]⟩,⟨[9],0,0,some (9,.rd false y_22.1.length (y_22.1.flatMap (encI .i64))),[]⟩,⟨[10],0,0,some (10,.sc (.int .i64 y_22.2)),[]⟩] [] [[(1,⟨24,false,[.rd β1 a0.Lengths.length (a0.Lengths.flatMap (encI .i64)),.rd β2 a0.Demand.length (a0.Demand.flatMap (encI .i64)),.sc (.int .i64 a0.Stock),.sc (.int .i64 a0.Kerf)]⟩)]] [[],[],[1],[0,1,2],[0,1,2,3],[0,1,2,3,4],[0,1,2,3,4],[0,1,2,3,4,5],[0,1,2,3,4,5,6,7]] (by kernel_rfl) (by kernel_rfl) (BornL.ok (.o<| .o<| .o<| .o<| .b rfl rfl<| .b rfl rfl<| .b rfl rfl<| .b rfl rfl<| .b rfl rfl<| .b rfl rfl<| .b rfl rfl<| .b rfl rfl<| .b rfl rfl<| .n)) (BaseL.ok (.o rfl<| .o rfl<| .o rfl<| .o rfl<| .b<| .b<| .b<| .b<| .b<| .b<| .b<| .b<| .b<| .n)) rfl (by decide) (allLt rfl) (.read rfl (.c (.put (fun E hE => .loadPA (lt1 rfl) (.tmp (hE.at (k := 0) rfl)) agg24 rfl rfl rfl rfl)) .n)<| .pure rfl (fun H => .put (fun E hE => .move (lt1 rfl) (.tmp (hE.at (k := 0) rfl))))<| .pure rfl (fun H => .put (fun E hE => .call0 (bw := false) (lt1 rfl) (c32 n a1 hy_21) (.cons (.tmp (hE.at (k := 0) rfl)) (.ren rfl) (.nil)) rfl))<| .pure rfl (fun H => .put (fun E hE => .call0 (bw := false) (lt1 rfl) (c33 (β1 := β1) (β2 := β2) (β3 := false) n (R23.mk a0.Lengths a0.Demand a0.Stock a0.Kerf) y_21 hy_22) (.cons (.tmp (hE.at (k := 0) rfl)) (.ren rfl) (.cons (.tmp (hE.at (k := 1) rfl)) (.ren rfl) (.nil))) rfl))<| .pure rfl (fun H => .put (fun E hE => .move (lt1 rfl) (.tmp (hE.at (k := 0) rfl))))<| .pure rfl (fun H => .put (fun E hE => .extract (lt1 rfl) (.tmp (hE.at (k := 0) rfl)) rfl))<| .pure rfl (fun H => .put (fun E hE => .extract (lt1 rfl) (.tmp (hE.at (k := 0) rfl)) rfl))<| .pure rfl (fun H => .put (fun E hE => .assign (lt1 rfl) (.tmp (hE.at (k := 0) rfl))))<| .pure rfl (fun H => .put (fun E hE => .assign (lt1 rfl) (.tmp (hE.at (k := 0) rfl))))<| .nil _) (fun E hE => .c (DInv.at hE (k := 0) rfl rfl rfl)<| .c (DInv.at hE (k := 1) rfl rfl rfl)<| .c (DInv.at hE (k := 2) rfl rfl rfl)<| .c (DInv.at hE (k := 3) rfl rfl rfl)<| .c (DInv.at hE (k := 11) rfl rfl rfl)<| .c (DInv.at hE (k := 12) rfl rfl rfl)<| .n _) rfl ?_
      refine AWP.vc (s' := ⟨[(1,.rd false a1.length (a1.flatMap encR56)),(2,.sc (.int .u8 a2)),(3,.ptr 1 0),(7,.rd false y_7.length (y_7.flatMap encR56)),(9,.rd false y_22.1.length (y_22.1.flatMap (encI .i64))),(10,.sc (.int .i64 y_22.2))],[(1,⟨24,false,[.rd β1 a0.Lengths.length (a0.Lengths.flatMap (encI .i64)),.rd β2 a0.Demand.length (a0.Demand.flatMap (encI .i64)),.sc (.int .i64 a0.Stock),.sc (.int .i64 a0.Kerf)]⟩)]⟩) (VC.sub (.c rfl<| .c rfl<| .c rfl<| .c rfl<| .c rfl<| .c rfl<| .n _) (.c rfl<| .n _)) ?_
      refine AWP.seq ?_
      obtain ⟨y_23,hy_23,h⟩ := bindS h
      refine AWP.region (.cons (.loadPA (lt1 rfl) (.tmp rfl) agg24 rfl rfl rfl rfl)<| .cons (.move (lt1 rfl) (.tmp rfl))<| .cons (.call0 (bw := false) (lt1 rfl) (c33 (β1 := β1) (β2 := β2) (β3 := false) n (R23.mk a0.Lengths a0.Demand a0.Stock a0.Kerf) y_7 hy_23) (.cons (.tmp rfl) (.ren rfl) (.cons (.tmp rfl) (.ren rfl) (.nil))) rfl)<| .cons (.move (lt1 rfl) (.tmp rfl))<| .cons (.extract (lt1 rfl) (.tmp rfl) rfl)<| .cons (.extract (lt1 rfl) (.tmp rfl) rfl)<| .cons (.assign (lt1 rfl) (.tmp rfl))<| .cons (.assign (lt1 rfl) (.tmp rfl))<| ARun.nil _ _ _) ?_
      refine AWP.vc (s' := ⟨[(1,.rd false a1.length (a1.flatMap encR56)),(2,.sc (.int .u8 a2)),(7,.rd false y_7.length (y_7.flatMap encR56)),(9,.rd false y_22.1.length (y_22.1.flatMap (encI .i64))),(10,.sc (.int .i64 y_22.2)),(11,.rd false y_23.1.length (y_23.1.flatMap (encI .i64))),(12,.sc (.int .i64 y_23.2))],[]⟩) (VC.sub (.c rfl<| .c rfl<| .c rfl<| .c rfl<| .c rfl<| .c rfl<| .c rfl<| .n _) (.n _)) ?_
      refine AWP.seq ?_
      refine AWP.region (.cons (.assign (lt1 rfl) (.const _ _ _))<| ARun.nil _ _ _) ?_
      refine AWP.vc (s' := ⟨[(1,.rd false a1.length (a1.flatMap encR56)),(2,.sc (.int .u8 a2)),(7,.rd false y_7.length (y_7.flatMap encR56)),(9,.rd false y_22.1.length (y_22.1.flatMap (encI .i64))),(10,.sc (.int .i64 y_22.2)),(11,.rd false y_23.1.length (y_23.1.flatMap (encI .i64))),(12,.sc (.int .i64 y_23.2)),(13,.sc (.int .i64 (0 : Int)))],[]⟩) (VC.sub (.c rfl<| .c rfl<| .c rfl<| .c rfl<| .c rfl<| .c rfl<| .c rfl<| .c rfl<| .n _) (.n _)) ?_
      refine AWP.seq ?_
      refine AWP.seq ?_
      refine AWP.region (.cons (.move (lt1 rfl) (.tmp rfl))<| .cons (.lenRd (lt1 rfl) (.tmp rfl) Try.underlying49)<| .cons (.gtr (lt1 rfl) (.tmp rfl) (.const _ _ _))<| ARun.nil _ _ _) ?_
      refine AWP.vc (s' := ⟨[(1,.rd false a1.length (a1.flatMap encR56)),(2,.sc (.int .u8 a2)),(7,.rd false y_7.length (y_7.flatMap encR56)),(9,.rd false y_22.1.length (y_22.1.flatMap (encI .i64))),(10,.sc (.int .i64 y_22.2)),(11,.rd false y_23.1.length (y_23.1.flatMap (encI .i64))),(12,.sc (.int .i64 y_23.2)),(13,.sc (.int .i64 (0 : Int))),(71,.sc (.bool (decide ((0 : Int) < (a1.length : Int)))))],[]⟩) (VC.sub (.c rfl<| .c rfl<| .c rfl<| .c rfl<| .c rfl<| .c rfl<| .c rfl<| .c rfl<| .c rfl<| .n _) (.n _)) ?_
      refine AWP.join' (S := fun p_26 : Int => ⟨[(1,.rd false a1.length (a1.flatMap encR56)),(7,.rd false y_7.length (y_7.flatMap encR56)),(9,.rd false y_22.1.length (y_22.1.flatMap (encI .i64))),(10,.sc (.int .i64 y_22.2)),(11,.rd false y_23.1.length (y_23.1.flatMap (encI .i64))),(12,.sc (.int .i64 y_23.2)),(13,.sc (.int .i64 p_26))],[]⟩) h (fun p_26 h => ?_) (fun k_27 h => ?_)
      · refine AWP.seq ?_
        obtain ⟨s_28,hs_28,h⟩ := bindS h
        obtain ⟨l2_29,hl2_29,h⟩ := bindS h
        obtain ⟨s_30,hs_30,h⟩ := bindS h
        obtain ⟨l2_31,hl2_31,h⟩ := bindS h
        refine AWP.draw (s' := ⟨[(1,.rd false a1.length (a1.flatMap encR56)),(7,.rd false y_7.length (y_7.flatMap encR56)),(9,.rd false y_22.1.length (y_22.1.flatMap (encI .i64))),(10,.sc (.int .i64 y_22.2)),(11,.rd false y_23.1.length (y_23.1.flatMap (encI .i64))),(12,.sc (.int .i64 y_23.2)),(14,.own 2 2 0 l2_31.length)],[(2,⟨78,true,l2_31.flatMap encR56⟩)]⟩) mixed [⟨1,.rd false a1.length (a1.flatMap encR56),none,[]⟩,⟨7,.rd false y_7.length (y_7.flatMap encR56),none,[]⟩,⟨9,.rd false y_22.1.length (y_22.1.flatMap (encI .i64)),none,[]⟩,⟨10,.sc (.int .i64 y_22.2),none,[]⟩,⟨11,.rd false y_23.1.length (y_23.1.flatMap (encI .i64)),none,[]⟩,⟨12,.sc (.int .i64 y_23.2),none,[]⟩,⟨13,.sc (.int .i64 p_26),none,[]⟩,⟨77,.own 2 2 0 ([] : List R56).length,some 0,[4,8]⟩,⟨78,.rd false a1.length (a1.flatMap encR56),some 1,[]⟩,⟨79,.sc (.int .i64 p_26),some 2,[]⟩,⟨80,.rd false s_28.length (s_28.flatMap encR56),some 3,[]⟩,⟨81,.own 2 2 0 l2_29.length,some 4,[8]⟩,⟨82,.rd false a1.length (a1.flatMap encR56),some 5,[]⟩,⟨83,.sc (.int .i64 p_26),some 6,[]⟩,⟨84,.rd false s_30.length (s_30.flatMap encR56),some 7,[]⟩,⟨85,.own 2 2 0 l2_31.length,some 8,[]⟩,⟨14,.own 2 2 0 l2_31.length,some 9,[]⟩] [⟨[],0,0,some (77,.own 2 2 0 ([] : List R56).length),[2]⟩,⟨[0],0,3,some (78,.rd false a1.length (a1.flatMap encR56)),[]⟩,⟨[6],0,3,some (79,.sc (.int .i64 p_26)),[]⟩,⟨[8,9],0,3,some (80,.rd false s_28.length (s_28.flatMap encR56)),[]⟩,⟨[7,10],1,1,some (81,.own 2 2 0 l2_29.length),[2]⟩,⟨[0],0,3,some (82,.rd false a1.length (a1.flatMap encR56)),[]⟩,⟨[6],0,3,some (83,.sc (.int .i64 p_26)),[]⟩,⟨[12,13],0,3,some (84,.rd false s_30.length (s_30.flatMap encR56)),[]⟩,⟨[11,14],2,2,some (85,.own 2 2 0 l2_31.length),[2]⟩,⟨[15],3,3,some (14,.own 2 2 0 l2_31.length),[]⟩] [0,4,8] [[],[(2,⟨78,true,([] : List R56).flatMap encR56⟩)],[(2,⟨78,true,l2_29.flatMap encR56⟩)],[(2,⟨78,true,l2_31.flatMap encR56⟩)]] [[],[],[],[1,2],[0,1,2,3],[],[],[5,6],[0,1,2,3,4,5,6,7],[0,1,2,3,4,5,6,7,8]] (by kernel_rfl) (by kernel_rfl) (BornL.ok (.o<| .o<| .o<| .o<| .o<| .o<| .o<| .b rfl rfl<| .b rfl rfl<| .b rfl rfl<| .b rfl rfl<| .b rfl rfl<| .b rfl rfl<| .b rfl rfl<| .b rfl rfl<| .b rfl rfl<| .b rfl rfl<| .n)) (BaseL.ok (.o rfl<| .o rfl<| .o rfl<| .o rfl<| .o rfl<| .o rfl<| .o rfl<| .b<| .b<| .b<| .b<| .b<| .b<| .b<| .b<| .b<| .b<| .n)) rfl (by decide) (allLt rfl) (.turn rfl rfl rfl rfl rfl (.new (fun E hE => .buildSlice (t := 2) (out := ([] : List R56).flatMap encR56) (lt1 rfl) (nm rfl) (.nil) Try.underlying49 zero78 el78 (by decide) (by decide) rfl (still_all encR56_still _)) rfl)<| .pure rfl (fun H => .put (fun E hE => .move (lt1 rfl) (.tmp (hE.at (k := 0) rfl))))<| .pure rfl (fun H => .put (fun E hE => .move (lt1 rfl) (.tmp (hE.at (k := 0) rfl))))<| .pure rfl (fun H => .put (fun E hE => .slRd (enc := encR56) (lt1 rfl) (.tmp (hE.at (k := 0) rfl)) Try.underlying49 sz78 encR56_len rfl (.some (.tmp (hE.at (k := 1) rfl))) (.none _ _ _) hs_28))<| .turn rfl rfl rfl rfl rfl (.new (fun E hE => .app (enc := encR56) (lt1 rfl) (nm rfl) (.tmp (hE.at (k := 0) rfl)) (Src.rd (.tmp (hE.at (k := 1) rfl)) (flatMap_length encR56_len _) (one_all encR56_one _) (.inl rfl)) Try.underlying49 ⟨_,Try.underlying49,by intro k hk; cases hk⟩ el78 rfl encR56_len rfl rfl (by decide) hl2_29) rfl)<| .pure rfl (fun H => .put (fun E hE => .move (lt1 rfl) (.tmp (hE.at (k := 0) rfl))))<| .pure rfl (fun H => .put (fun E hE => .move (lt1 rfl) (.tmp (hE.at (k := 0) rfl))))<| .pure rfl (fun H => .put (fun E hE => .slRd (enc := encR56) (lt1 rfl) (.tmp (hE.at (k := 0) rfl)) Try.underlying49 sz78 encR56_len rfl (.none _ _ _) (.some (.tmp (hE.at (k := 1) rfl))) hs_30))<| .turn rfl rfl rfl rfl rfl (.new (fun E hE => .app (enc := encR56) (lt1 rfl) (nm rfl) (.tmp (hE.at (k := 0) rfl)) (Src.rd (.tmp (hE.at (k := 1) rfl)) (flatMap_length encR56_len _) (one_all encR56_one _) (.inl rfl)) Try.underlying49 ⟨_,Try.underlying49,by intro k hk; cases hk⟩ el78 rfl encR56_len rfl rfl (by decide) hl2_31) rfl)<| .read rfl (.c (.put (fun E hE => .assign (lt1 rfl) (.tmp (hE.at (k := 0) rfl)))) (.n))<| .nil _) (fun E hE => .c (DInv.at hE (k := 0) rfl rfl rfl)<| .c (DInv.at hE (k := 1) rfl rfl rfl)<| .c (DInv.at hE (k := 2) rfl rfl rfl)<| .c (DInv.at hE (k := 3) rfl rfl rfl)<| .c (DInv.at hE (k := 4) rfl rfl rfl)<| .c (DInv.at hE (k := 5) rfl rfl rfl)<| .c (DInv.at hE (k := 16) rfl rfl rfl)<| .n _) rfl ?_
        refine AWP.vc (s' := ⟨[(1,.rd false a1.length (a1.flatMap encR56)),(7,.rd false y_7.length (y_7.flatMap encR56)),(9,.rd false y_22.1.length (y_22.1.flatMap (encI .i64))),(10,.sc (.int .i64 y_22.2)),(11,.rd false y_23.1.length (y_23.1.flatMap (encI .i64))),(12,.sc (.int .i64 y_23.2)),(14,.own 2 2 0 l2_31.length)],[(2,⟨78,true,l2_31.flatMap encR56⟩)]⟩) (VC.sub (.c rfl<| .c rfl<| .c rfl<| .c rfl<| .c rfl<| .c rfl<| .c rfl<| .n _) (.c rfl<| .n _)) ?_
        refine AWP.seq ?_
        refine AWP.vc (VC.frz (d := 14) (t := 2) rfl rfl encR56_len) ?_
        obtain ⟨y_32,hy_32,h⟩ := bindS h
        obtain ⟨y_33,hy_33,h⟩ := bindS h
        obtain ⟨y_34,hy_34,h⟩ := bindS h
        obtain ⟨y_35,hy_35,h⟩ := bindS h
        obtain ⟨y_36,hy_36,h⟩ := bindS h
        obtain ⟨y_37,hy_37,h⟩ := bindS h
        obtain ⟨y_38,hy_38,h⟩ := bindS h
        obtain ⟨y_39,hy_39,h⟩ := bindS h
        obtain ⟨y_40,hy_40,h⟩ := bindS h
        obtain ⟨y_41,hy_41,h⟩ := bindS h
        obtain ⟨y_42,hy_42,h⟩ := bindS h
        obtain ⟨y_43,hy_43,h⟩ := bindS h
        obtain ⟨y_44,hy_44,h⟩ := bindS h
        obtain ⟨y_45,hy_45,h⟩ := bindS h
        obtain ⟨t6_46,ht6_46,h⟩ := letS h
        refine AWP.region (.cons (.move (lt1 rfl) (.tmp rfl))<| .cons (.eql (lt1 rfl) (.tmp rfl) (.const _ _ _))<| .cons (.move (lt1 rfl) (.tmp rfl))<| .guard (j := 2) (dj := 88) rfl (lt1 rfl) rfl (lt1 rfl) (fun hg => .move (lt1 rfl) (.tmp rfl))<| .guard (j := 2) (dj := 88) rfl (lt1 rfl) rfl (lt1 rfl) (fun hg => .eql (lt1 rfl) (.gd hg (.tmp rfl)) (.const _ _ _))<| .guard (j := 2) (dj := 88) rfl (lt1 rfl) rfl (lt1 rfl) (fun hg => .move (lt1 rfl) (.gd hg (.tmp rfl)))<| .guard2 (j := 5) (dj := 91) rfl (lt1 rfl) rfl (lt1 rfl) (fun hg => .move (lt1 rfl) (.tmp rfl))<| .guard2 (j := 5) (dj := 91) rfl (lt1 rfl) rfl (lt1 rfl) (fun hg => .move (lt1 rfl) (.tmp rfl))<| .guard2 (j := 5) (dj := 91) rfl (lt1 rfl) rfl (lt1 rfl) (fun hg => .call0 (bw := false) (lt1 rfl) (c34 (β1 := false) (β2 := false) n y_22.1 y_23.1 (gdB hy_32 hg)) (.cons (.gd hg (.tmp rfl)) (.ren rfl) (.cons (.gd hg (.tmp rfl)) (.ren rfl) (.nil))) rfl)<| .guard (j := 2) (dj := 88) rfl (lt1 rfl) rfl (lt1 rfl) (fun hg => .pickAnd (lt1 rfl) (.gd hg (.tmp rfl)) (.gdAnd hg (.tmp rfl)) (.const _ _ _))<| .guard (j := 2) (dj := 88) rfl (lt1 rfl) rfl (lt1 rfl) (fun hg => .move (lt1 rfl) (.gd hg (.tmp rfl)))<| .guard2 (j := 10) (dj := 96) rfl (lt1 rfl) rfl (lt1 rfl) (fun hg => .move (lt1 rfl) (.tmp rfl))<| .guard2 (j := 10) (dj := 96) rfl (lt1 rfl) rfl (lt1 rfl) (fun hg => .eql (lt1 rfl) (.gd hg (.tmp rfl)) (.const _ _ _))<| .guard2 (j := 10) (dj := 96) rfl (lt1 rfl) rfl (lt1 rfl) (fun hg => .move (lt1 rfl) (.gd hg (.tmp rfl)))<| .guard2 (j := 13) (dj := 99) rfl (lt1 rfl) rfl (lt1 rfl) (fun hg => .move (lt1 rfl) (.tmp rfl))<| .guard2 (j := 13) (dj := 99) rfl (lt1 rfl) rfl (lt1 rfl) (fun hg => .call0 (bw := false) (lt1 rfl) (c35 (β1 := false) n y_7 (gdB hy_33 hg)) (.cons (.gd hg (.tmp rfl)) (.ren rfl) (.nil)) rfl)<| .guard2 (j := 13) (dj := 99) rfl (lt1 rfl) rfl (lt1 rfl) (fun hg => .gtr (lt1 rfl) (.gd hg (.tmp rfl)) (.const _ _ _))<| .guard2 (j := 10) (dj := 96) rfl (lt1 rfl) rfl (lt1 rfl) (fun hg => .pickAnd (lt1 rfl) (.gd hg (.tmp rfl)) (.gdAnd hg (.tmp rfl)) (.const _ _ _))<| .guard (j := 2) (dj := 88) rfl (lt1 rfl) rfl (lt1 rfl) (fun hg => .pickOr (lt1 rfl) (.gd hg (.tmp rfl)) (.const _ _ _) (.gdAnd hg (.tmp rfl)))<| .cons (.pickAnd (lt1 rfl) (.tmp rfl) (.tmp rfl) (.const _ _ _))<| .cons (.move (lt1 rfl) (.tmp rfl))<| .guard (j := 20) (dj := 106) rfl (lt1 rfl) rfl (lt1 rfl) (fun hg => .move (lt1 rfl) (.tmp rfl))<| .guard (j := 20) (dj := 106) rfl (lt1 rfl) rfl (lt1 rfl) (fun hg => .call0 (bw := false) (lt1 rfl) (c35 (β1 := false) n y_7 (gdB hy_34 hg)) (.cons (.gd hg (.tmp rfl)) (.ren rfl) (.nil)) rfl)<| .guard (j := 20) (dj := 106) rfl (lt1 rfl) rfl (lt1 rfl) (fun hg => .move (lt1 rfl) (.tmp rfl))<| .guard (j := 20) (dj := 106) rfl (lt1 rfl) rfl (lt1 rfl) (fun hg => .call0 (bw := false) (lt1 rfl) (c32 n a1 (gdB hy_35 hg)) (.cons (.gd hg (.tmp rfl)) (.ren rfl) (.nil)) rfl)<| .guard (j := 20) (dj := 106) rfl (lt1 rfl) rfl (lt1 rfl) (fun hg => .call0 (bw := false) (lt1 rfl) (c35 (β1 := false) n y_35 (gdB hy_36 hg)) (.cons (.gd hg (.tmp rfl)) (.ren rfl) (.nil)) rfl)<| .guard (j := 20) (dj := 106) rfl (lt1 rfl) rfl (lt1 rfl) (fun hg => .eql (lt1 rfl) (.gd hg (.tmp rfl)) (.gd hg (.tmp rfl)))<| .cons (.pickAnd (lt1 rfl) (.tmp rfl) (.tmp rfl) (.const _ _ _))<| .cons (.move (lt1 rfl) (.tmp rfl))<| .guard (j := 28) (dj := 114) rfl (lt1 rfl) rfl (lt1 rfl) (fun hg => .move (lt1 rfl) (.tmp rfl))<| .guard (j := 28) (dj := 114) rfl (lt1 rfl) rfl (lt1 rfl) (fun hg => .call0 (bw := false) (lt1 rfl) (c31 n y_7 (gdB hy_37 hg)) (.cons (.gd hg (.tmp rfl)) (.ren rfl) (.nil)) rfl)<| .guard (j := 28) (dj := 114) rfl (lt1 rfl) rfl (lt1 rfl) (fun hg => .call0 (bw := false) (lt1 rfl) (c37 n y_37 (gdB hy_38 hg)) (.cons (.gd hg (.tmp rfl)) (.ren rfl) (.nil)) rfl)<| .guard (j := 28) (dj := 114) rfl (lt1 rfl) rfl (lt1 rfl) (fun hg => .move (lt1 rfl) (.tmp rfl))<| .guard (j := 28) (dj := 114) rfl (lt1 rfl) rfl (lt1 rfl) (fun hg => .call0 (bw := false) (lt1 rfl) (c37 n y_7 (gdB hy_39 hg)) (.cons (.gd hg (.tmp rfl)) (.ren rfl) (.nil)) rfl)<| .guard (j := 28) (dj := 114) rfl (lt1 rfl) rfl (lt1 rfl) (fun hg => .call0 (bw := false) (lt1 rfl) (c36 (β1 := false) (β2 := false) n y_38 y_39 (gdB hy_40 hg)) (.cons (.gd hg (.tmp rfl)) (.ren rfl) (.cons (.gd hg (.tmp rfl)) (.ren rfl) (.nil))) rfl)<| .cons (.pickAnd (lt1 rfl) (.tmp rfl) (.tmp rfl) (.const _ _ _))<| .cons (.move (lt1 rfl) (.tmp rfl))<| .guard (j := 36) (dj := 122) rfl (lt1 rfl) rfl (lt1 rfl) (fun hg => .move (lt1 rfl) (.tmp rfl))<| .guard (j := 36) (dj := 122) rfl (lt1 rfl) rfl (lt1 rfl) (fun hg => .call0 (bw := false) (lt1 rfl) (c32 n l2_31 (gdB hy_41 hg)) (.cons (.gd hg (.tmp rfl)) (.ren rfl) (.nil)) rfl)<| .guard (j := 36) (dj := 122) rfl (lt1 rfl) rfl (lt1 rfl) (fun hg => .call0 (bw := false) (lt1 rfl) (c31 n y_41 (gdB hy_42 hg)) (.cons (.gd hg (.tmp rfl)) (.ren rfl) (.nil)) rfl)<| .guard (j := 36) (dj := 122) rfl (lt1 rfl) rfl (lt1 rfl) (fun hg => .call0 (bw := false) (lt1 rfl) (c37 n y_42 (gdB hy_43 hg)) (.cons (.gd hg (.tmp rfl)) (.ren rfl) (.nil)) rfl)<| .guard (j := 36) (dj := 122) rfl (lt1 rfl) rfl (lt1 rfl) (fun hg => .move (lt1 rfl) (.tmp rfl))<| .guard (j := 36) (dj := 122) rfl (lt1 rfl) rfl (lt1 rfl) (fun hg => .call0 (bw := false) (lt1 rfl) (c37 n y_7 (gdB hy_44 hg)) (.cons (.gd hg (.tmp rfl)) (.ren rfl) (.nil)) rfl)<| .guard (j := 36) (dj := 122) rfl (lt1 rfl) rfl (lt1 rfl) (fun hg => .call0 (bw := false) (lt1 rfl) (c36 (β1 := false) (β2 := false) n y_43 y_44 (gdB hy_45 hg)) (.cons (.gd hg (.tmp rfl)) (.ren rfl) (.cons (.gd hg (.tmp rfl)) (.ren rfl) (.nil))) rfl)<| .cons (.pickAnd (lt1 rfl) (.tmp rfl) (.tmp rfl) (.const _ _ _))<| .cons (.assign (lt1 rfl) (.tmp rfl))<| ARun.nil _ _ _) ?_
        refine AWP.ret ?_
        obtain rfl := Option.some.inj h
        refine retJ (Res.vc (s' := ⟨[(6,.sc (.bool t6_46))],[]⟩) (by subst ht6_46; exact VC.sub (.c rfl<| .n _) (.n _)) ?_)
        refine Res.drop (H := []) rfl ?_
        exact Res.of rfl (.cons (.tmp rfl) (.nil)) rfl rfl
      · refine AWP.cond (.tmp rfl) (fun hc => ?_) (fun hc => ?_)
        · have h := iteT hc h
          obtain ⟨ha_24,h⟩ := asrtS h
          obtain ⟨t13_25,ht13_25,h⟩ := letS h
          refine AWP.region (.cons (.move (lt1 rfl) (.tmp rfl))<| .cons (.conv (lt1 rfl) (.tmp rfl) Try.underlying5 Try.underlying3)<| .cons (.move (lt1 rfl) (.tmp rfl))<| .cons (.lenRd (lt1 rfl) (.tmp rfl) Try.underlying49)<| .cons (.rem (lt1 rfl) (.tmp rfl) (.tmp rfl) ha_24)<| .cons (.assign (lt1 rfl) (.tmp rfl))<| ARun.nil _ _ _) ?_
          exact endJ t13_25 h (by subst ht13_25; exact VC.sub (.c rfl<| .c rfl<| .c rfl<| .c rfl<| .c rfl<| .c rfl<| .c rfl<| .n _) (.n _))
        · have h := iteF hc h
          refine AWP.skip ?_
          exact endJ (0 : Int) h (VC.sub (.c rfl<| .c rfl<| .c rfl<| .c rfl<| .c rfl<| .c rfl<| .c rfl<| .n _) (.n _))
    · refine AWP.vc (s' := ⟨[(1,.rd false a1.length (a1.flatMap encR56)),(2,.sc (.int .u8 a2)),(3,.ptr 1 0),(7,.rd false y_7.length (y_7.flatMap encR56)),(8,.sc (.int .i64 (1 : Int)))],[(1,⟨24,false,[.rd β1 a0.Lengths.length (a0.Lengths.flatMap (encI .i64)),.rd β2 a0.Demand.length (a0.Demand.flatMap (encI .i64)),.sc (.int .i64 a0.Stock),.sc (.int .i64 a0.Kerf)]⟩)]⟩) (VC.sub (.c rfl<| .c rfl<| .c rfl<| .c rfl<| .c rfl<| .n _) (.c rfl<| .n _)) ?_
      refine AWP.loopM (S := fun x_13 : Int => ⟨[(1,.rd false a1.length (a1.flatMap encR56)),(2,.sc (.int .u8 a2)),(3,.ptr 1 0),(7,.rd false y_7.length (y_7.flatMap encR56)),(8,.sc (.int .i64 x_13))],[(1,⟨24,false,[.rd β1 a0.Lengths.length (a0.Lengths.flatMap (encI .i64)),.rd β2 a0.Demand.length (a0.Demand.flatMap (encI .i64)),.sc (.int .i64 a0.Stock),.sc (.int .i64 a0.Kerf)]⟩)]⟩) (x := (1 : Int)) (fun nx_14 x_13 h => ?_) h
      unfold m7_L1 at h
      refine AWP.seq ?_
      refine AWP.seq ?_
      refine AWP.region (.cons (.move (lt1 rfl) (.tmp rfl))<| .cons (.move (lt1 rfl) (.tmp rfl))<| .cons (.lenRd (lt1 rfl) (.tmp rfl) Try.underlying53)<| .cons (.lss (lt1 rfl) (.tmp rfl) (.tmp rfl))<| ARun.nil _ _ _) ?_
      refine AWP.vc (s' := ⟨[(1,.rd false a1.length (a1.flatMap encR56)),(2,.sc (.int .u8 a2)),(3,.ptr 1 0),(7,.rd false y_7.length (y_7.flatMap encR56)),(8,.sc (.int .i64 x_13)),(40,.sc (.bool (decide (x_13 < (y_7.length : Int)))))],[(1,⟨24,false,[.rd β1 a0.Lengths.length (a0.Lengths.flatMap (encI .i64)),.rd β2 a0.Demand.length (a0.Demand.flatMap (encI .i64)),.sc (.int .i64 a0.Stock),.sc (.int .i64 a0.Kerf)]⟩)]⟩) (VC.sub (.c rfl<| .c rfl<| .c rfl<| .c rfl<| .c rfl<| .c rfl<| .n _) (.c rfl<| .n _)) ?_
      refine AWP.cond (.tmp rfl) (fun hc => ?_) (fun hc => ?_)
      · have h := iteT hc h
        refine AWP.skip ?_
        refine AWP.seq ?_
        refine AWP.block ?_
        refine AWP.seq ?_
        obtain ⟨y_15,hy_15,h⟩ := bindS h
        obtain ⟨y_16,hy_16,h⟩ := bindS h
        obtain ⟨y_17,hy_17,h⟩ := bindS h
        refine AWP.draw (s' := ⟨[(1,.rd false a1.length (a1.flatMap encR56)),(2,.sc (.int .u8 a2)),(3,.ptr 1 0),(7,.rd false y_7.length (y_7.flatMap encR56)),(8,.sc (.int .i64 x_13)),(55,.sc (.bool (!y_17)))],[(1,⟨24,false,[.rd β1 a0.Lengths.length (a0.Lengths.flatMap (encI .i64)),.rd β2 a0.Demand.length (a0.Demand.flatMap (encI .i64)),.sc (.int .i64 a0.Stock),.sc (.int .i64 a0.Kerf)]⟩)]⟩) mixed [⟨1,.rd false a1.length (a1.flatMap encR56),none,[]⟩,⟨2,.sc (.int .u8 a2),none,[]⟩,⟨3,.ptr 1 0,none,[]⟩,⟨7,.rd false y_7.length (y_7.flatMap encR56),none,[]⟩,⟨8,.sc (.int .i64 x_13),none,[]⟩,⟨40,.sc (.bool (decide (x_13 < (y_7.length : Int)))),none,[]⟩,⟨43,.rd false y_7.length (y_7.flatMap encR56),some 0,[]⟩,⟨44,.sc (.int .i64 x_13),some 1,[]⟩,⟨45,.sc (.int .i64 (IntKind.wrap .i64 (x_13 - (1 : Int)))),some 2,[]⟩,⟨46,.rptr false [.rd false y_15.Pattern.length (y_15.Pattern.flatMap (encI .i64)),.sc (.int .i64 y_15.Count)],some 3,[]⟩,⟨47,.rptr false [.rd false y_15.Pattern.length (y_15.Pattern.flatMap (encI .i64)),.sc (.int .i64 y_15.Count)],some 4,[]⟩,⟨48,.rd false y_15.Pattern.length (y_15.Pattern.flatMap (encI .i64)),some 5,[]⟩,⟨49,.rd false y_7.length (y_7.flatMap encR56),some 6,[]⟩,⟨50,.sc (.int .i64 x_13),some 7,[]⟩,⟨51,.rptr false [.rd false y_16.Pattern.length (y_16.Pattern.flatMap (encI .i64)),.sc (.int .i64 y_16.Count)],some 8,[]⟩,⟨52,.rptr false [.rd false y_16.Pattern.length (y_16.Pattern.flatMap (encI .i64)),.sc (.int .i64 y_16.Count)],some 9,[]⟩,⟨53,.rd false y_16.Pattern.length (y_16.Pattern.flatMap (encI .i64)),some 10,[]⟩,⟨54,.sc (.bool y_17),some 11,[]⟩,⟨55,.sc (.bool (!y_17)),some 12,[]⟩] [⟨[3],0,0,some (43,.rd false y_7.length (y_7.flatMap encR56)),[]⟩,⟨[4],0,0,some (44,.sc (.int .i64 x_13)),[]⟩,⟨[7],0,0,some (45,.sc (.int .i64 (IntKind.wrap .i64 (x_13 - (1 : Int))))),[]⟩,⟨[6,8],0,0,some (46,.rptr false [.rd false y_15.Pattern.length (y_15.Pattern.flatMap (encI .i64)),.sc (.int .i64 y_15.Count)]),[]⟩,⟨[9],0,0,some (47,.rptr false [.rd false y_15.Pattern.length (y_15.Pattern.flatMap (encI .i64)),.sc (.int .i64 y_15.Count)]),[]⟩,⟨[10],0,0,some (48,.rd false y_15.Pattern.length (y_15.Pattern.flatMap (encI .i64))),[]⟩,⟨[3],0,0,some (49,.rd false y_7.length (y_7.flatMap encR56)),[]⟩,⟨[4],0,0,some (50,.sc (.int .i64 x_13)),[]⟩,⟨[12,13],0,0,some (51,.rptr false [.rd false y_16.Pattern.length (y_16.Pattern.flatMap (encI .i64)),.sc (.int .i64 y_16.Count)]),[]⟩,⟨[14],0,0,some (52,.rptr false [.rd false y_16.Pattern.length (y_16.Pattern.flatMap (encI .i64)),.sc (.int .i64 y_16.Count)]),[]⟩,⟨[15],0,0,some (53,.rd false y_16.Pattern.length (y_16.Pattern.flatMap (encI .i64))),[]⟩,⟨[11,16],0,0,some (54,.sc (.bool y_17)),[]⟩,⟨[17],0,0,some (55,.sc (.bool (!y_17))),[]⟩] [] [[(1,⟨24,false,[.rd β1 a0.Lengths.length (a0.Lengths.flatMap (encI .i64)),.rd β2 a0.Demand.length (a0.Demand.flatMap (encI .i64)),.sc (.int .i64 a0.Stock),.sc (.int .i64 a0.Kerf)]⟩)]] [[],[],[1],[0,1,2],[0,1,2,3],[0,1,2,3,4],[],[],[6,7],[6,7,8],[6,7,8,9],[0,1,2,3,4,5,6,7,8,9,10],[0,1,2,3,4,5,6,7,8,9,10,11]] (by kernel_rfl) (by kernel_rfl) (BornL.ok (.o<| .o<| .o<| .o<| .o<| .o<| .b rfl rfl<| .b rfl rfl<| .b rfl rfl<| .b rfl rfl<| .b rfl rfl<| .b rfl rfl<| .b rfl rfl<| .b rfl rfl<| .b rfl rfl<| .b rfl rfl<| .b rfl rfl<| .b rfl rfl<| .b rfl rfl<| .n)) (BaseL.ok (.o rfl<| .o rfl<| .o rfl<| .o rfl<| .o rfl<| .o rfl<| .b<| .b<| .b<| .b<| .b<| .b<| .b<| .b<| .b<| .b<| .b<| .b<| .b<| .n)) rfl (by decide) (allLt rfl) (.pure rfl (fun H => .put (fun E hE => .move (lt1 rfl) (.tmp (hE.at (k := 0) rfl))))<| .pure rfl (fun H => .put (fun E hE => .move (lt1 rfl) (.tmp (hE.at (k := 0) rfl))))<| .pure rfl (fun H => .put (fun E hE => .sub (lt1 rfl) (.tmp (hE.at (k := 0) rfl)) (.const _ _ _)))<| .pure rfl (fun H => .put (fun E hE => .indexRd (enc := encR56) (lt1 rfl) (.tmp (hE.at (k := 0) rfl)) (.tmp (hE.at (k := 1) rfl)) Try.underlying53 sz57 encR56_len rfl hy_15))<| .pure rfl (fun H => .put (fun E hE => .fieldR (lt1 rfl) (.tmp (hE.at (k := 0) rfl)) fld57_0 rfl))<| .pure rfl (fun H => .put (fun E hE => .loadR (v := .rd false y_15.Pattern.length (y_15.Pattern.flatMap (encI .i64))) (lt1 rfl) (.tmp (hE.at (k := 0) rfl)) one22 rfl))<| .pure rfl (fun H => .put (fun E hE => .move (lt1 rfl) (.tmp (hE.at (k := 0) rfl))))<| .pure rfl (fun H => .put (fun E hE => .move (lt1 rfl) (.tmp (hE.at (k := 0) rfl))))<| .pure rfl (fun H => .put (fun E hE => .indexRd (enc := encR56) (lt1 rfl) (.tmp (hE.at (k := 0) rfl)) (.tmp (hE.at (k := 1) rfl)) Try.underlying53 sz57 encR56_len rfl hy_16))<| .pure rfl (fun H => .put (fun E hE => .fieldR (lt1 rfl) (.tmp (hE.at (k := 0) rfl)) fld57_0 rfl))<| .pure rfl (fun H => .put (fun E hE => .loadR (v := .rd false y_16.Pattern.length (y_16.Pattern.flatMap (encI .i64))) (lt1 rfl) (.tmp (hE.at (k := 0) rfl)) one22 rfl))<| .pure rfl (fun H => .put (fun E hE => .call0 (bw := false) (lt1 rfl) (c15 (β1 := false) (β2 := false) n y_15.Pattern y_16.Pattern hy_17) (.cons (.tmp (hE.at (k := 0) rfl)) (.ren rfl) (.cons (.tmp (hE.at (k := 1) rfl)) (.ren rfl) (.nil))) rfl))<| .pure rfl (fun H => .put (fun E hE => .not (lt1 rfl) (.tmp (hE.at (k := 0) rfl))))<| .nil _) (fun E hE => .c (DInv.at hE (k := 0) rfl rfl rfl)<| .c (DInv.at hE (k := 1) rfl rfl rfl)<| .c (DInv.at hE (k := 2) rfl rfl rfl)<| .c (DInv.at hE (k := 3) rfl rfl rfl)<| .c (DInv.at hE (k := 4) rfl rfl rfl)<| .c (DInv.at hE (k := 18) rfl rfl rfl)<| .n _) rfl ?_
        refine AWP.vc (s' := ⟨[(1,.rd false a1.length (a1.flatMap encR56)),(2,.sc (.int .u8 a2)),(3,.ptr 1 0),(7,.rd false y_7.length (y_7.flatMap encR56)),(8,.sc (.int .i64 x_13)),(55,.sc (.bool (!y_17)))],[(1,⟨24,false,[.rd β1 a0.Lengths.length (a0.Lengths.flatMap (encI .i64)),.rd β2 a0.Demand.length (a0.Demand.flatMap (encI .i64)),.sc (.int .i64 a0.Stock),.sc (.int .i64 a0.Kerf)]⟩)]⟩) (VC.sub (.c rfl<| .c rfl<| .c rfl<| .c rfl<| .c rfl<| .c rfl<| .n _) (.c rfl<| .n _)) ?_
        refine AWP.cond (.tmp rfl) (fun hc => ?_) (fun hc => ?_)
        · have h := iteT hc h
          refine AWP.seq ?_
          refine AWP.region (.cons (.assign (lt1 rfl) (.const _ _ _))<| ARun.nil _ _ _) ?_
          refine AWP.ret ?_
          obtain rfl := Option.some.inj h
          refine retJ (Res.vc (s' := ⟨[(6,.sc (.bool false))],[]⟩) (VC.sub (.c rfl<| .n _) (.n _)) ?_)
          refine Res.drop (H := []) rfl ?_
          exact Res.of rfl (.cons (.tmp rfl) (.nil)) rfl rfl
        · have h := iteF hc h
          refine AWP.skip ?_
          obtain ⟨t8_18,ht8_18,h⟩ := letS h
          refine AWP.region (.cons (.move (lt1 rfl) (.tmp rfl))<| .cons (.add (lt1 rfl) (.tmp rfl) (.const _ _ _))<| .cons (.assign (lt1 rfl) (.tmp rfl))<| ARun.nil _ _ _) ?_
          exact endJ t8_18 h (by subst ht8_18; exact VC.sub (.c rfl<| .c rfl<| .c rfl<| .c rfl<| .c rfl<| .n _) (.c rfl<| .n _))
      · have h := iteF hc h
        refine AWP.exit ?_
        exact endJ () h (VC.sub (.c rfl<| .c rfl<| .c rfl<| .c rfl<| .n _) (.c rfl<| .n _))
end Go.AB
