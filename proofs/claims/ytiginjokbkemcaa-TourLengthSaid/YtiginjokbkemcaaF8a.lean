import Derived.Test.YtiginjokbkemcaaProg
import Derived.Test.YtiginjokbkemcaaF7b
import Derived.KernelRfl
set_option linter.unusedVariables false
set_option maxRecDepth 20000
namespace Go.AB
open Go Go.Proofs
theorem c67 {β1 : Bool} {β2 : Bool} {β3 : Bool} (n : Nat) (a0 : R24) (a1 : (List Int)) {r : Bool} (h : m67 n a0 a1 = some r) : Spec Try.prog 67 [] [.agg [.rd β1 a0.Points.length (a0.Points.flatMap encR45),.rd β2 a0.Before.length (a0.Before.flatMap encR93)],.rd β3 a1.length (a1.flatMap (encI .i64))] [] (.sc (.bool r)) [] := by
  refine Spec.of (fn := Try.f67) Try.func67 Try.ntmps67 rfl rfl (le1 rfl) (fun w0 Zs Zb T0 ι0 => ?_)
  unfold m67 at h
  refine AWP.seq ?_
  refine AWP.region (.cons (.box (t := 1) (n := 2) (lt1 rfl) (nm rfl) (.tmp rfl) (by first | exact ⟨rfl,rfl⟩ | rfl) rfl)<| .cons (.assign (lt1 rfl) (.const _ _ _))<| ARun.nil _ _ _) ?_
  refine AWP.vc (s' := ⟨[(1,.rd β3 a1.length (a1.flatMap (encI .i64))),(2,.ptr 1 0)],[(1,⟨32,false,[.rd β1 a0.Points.length (a0.Points.flatMap encR45),.rd β2 a0.Before.length (a0.Before.flatMap encR93)]⟩)]⟩) (VC.sub (.c rfl<| .c rfl<| .n _) (.c rfl<| .n _)) ?_
  refine AWP.seq ?_
  obtain ⟨y_1,hy_1,h⟩ := bindS h
  refine AWP.region (.cons (.move (lt1 rfl) (.tmp rfl))<| .cons (.lenRd (lt1 rfl) (.tmp rfl) Try.underlying28)<| .cons (.fieldP (lt1 rfl) (.tmp rfl) fld32_0)<| .cons (.loadP (lt1 rfl) (.tmp rfl) one22 rfl rfl rfl)<| .cons (.lenRd (lt1 rfl) (.tmp rfl) Try.underlying22)<| .cons (.eql (lt1 rfl) (.tmp rfl) (.tmp rfl))<| .cons (.move (lt1 rfl) (.tmp rfl))<| .guard (j := 6) (dj := 11) rfl (lt1 rfl) rfl (lt1 rfl) (fun hg => .loadPA (lt1 rfl) (.tmp rfl) agg32 rfl rfl rfl rfl)<| .guard (j := 6) (dj := 11) rfl (lt1 rfl) rfl (lt1 rfl) (fun hg => .move (lt1 rfl) (.tmp rfl))<| .guard (j := 6) (dj := 11) rfl (lt1 rfl) rfl (lt1 rfl) (fun hg => .call0 (bw := false) (lt1 rfl) (c88 (β1 := β1) (β2 := β2) (β3 := β3) n (R24.mk a0.Points a0.Before) a1 (gdB hy_1 hg)) (.cons (.gd hg (.tmp rfl)) (.ren rfl) (.cons (.gd hg (.tmp rfl)) (.ren rfl) (.nil))) rfl)<| .cons (.pickAnd (lt1 rfl) (.tmp rfl) (.tmp rfl) (.const _ _ _))<| .cons (.assign (lt1 rfl) (.tmp rfl))<| ARun.nil _ _ _) ?_
  refine AWP.ret ?_
  obtain rfl := Option.some.inj h
  refine retJ (Res.vc (s' := ⟨[(4,.sc (.bool ((decide ((a1.length : Int) = (a0.Points.length : Int))) && y_1)))],[]⟩) (VC.sub (.c rfl<| .n _) (.n _)) ?_)
  refine Res.drop (H := []) rfl ?_
  exact Res.of rfl (.cons (.tmp rfl) (.nil)) rfl rfl
theorem c29 {β1 : Bool} {β2 : Bool} {β3 : Bool} (n : Nat) (a0 : R24) (a1 : (List Int)) {r : (Int × Int)} (h : m29 n a0 a1 = some r) : Spec Try.prog 29 [] [.agg [.rd β1 a0.Points.length (a0.Points.flatMap encR45),.rd β2 a0.Before.length (a0.Before.flatMap encR93)],.rd β3 a1.length (a1.flatMap (encI .i64))] [] (.tup [.sc (.int .i64 r.1),.sc (.int .i64 r.2)]) [] := by
  refine Spec.of (fn := Try.f29) Try.func29 Try.ntmps29 rfl rfl (le1 rfl) (fun w0 Zs Zb T0 ι0 => ?_)
  unfold m29 at h
  refine AWP.seq ?_
  refine AWP.region (.cons (.box (t := 1) (n := 2) (lt1 rfl) (nm rfl) (.tmp rfl) (by first | exact ⟨rfl,rfl⟩ | rfl) rfl)<| .cons (.assign (lt1 rfl) (.const _ _ _))<| .cons (.assign (lt1 rfl) (.const _ _ _))<| ARun.nil _ _ _) ?_
  refine AWP.vc (s' := ⟨[(1,.rd β3 a1.length (a1.flatMap (encI .i64))),(2,.ptr 1 0)],[(1,⟨32,false,[.rd β1 a0.Points.length (a0.Points.flatMap encR45),.rd β2 a0.Before.length (a0.Before.flatMap encR93)]⟩)]⟩) (VC.sub (.c rfl<| .c rfl<| .n _) (.c rfl<| .n _)) ?_
  refine AWP.seq ?_
  refine AWP.block ?_
  refine AWP.seq ?_
  obtain ⟨y_1,hy_1,h⟩ := bindS h
  refine AWP.region (.cons (.loadPA (lt1 rfl) (.tmp rfl) agg32 rfl rfl rfl rfl)<| .cons (.call0 (bw := false) (lt1 rfl) (c22 (β1 := β1) (β2 := β2) n (R24.mk a0.Points a0.Before) hy_1) (.cons (.tmp rfl) (.ren rfl) (.nil)) rfl)<| .cons (.not (lt1 rfl) (.tmp rfl))<| .cons (.assign (lt1 rfl) (.tmp rfl))<| ARun.nil _ _ _) ?_
  refine AWP.vc (s' := ⟨[(1,.rd β3 a1.length (a1.flatMap (encI .i64))),(2,.ptr 1 0),(6,.sc (.bool (!y_1)))],[(1,⟨32,false,[.rd β1 a0.Points.length (a0.Points.flatMap encR45),.rd β2 a0.Before.length (a0.Before.flatMap encR93)]⟩)]⟩) (VC.sub (.c rfl<| .c rfl<| .c rfl<| .n _) (.c rfl<| .n _)) ?_
  refine AWP.cond (.tmp rfl) (fun hc => ?_) (fun hc => ?_)
  · have h := iteT hc h
    refine AWP.seq ?_
    refine AWP.region (.cons (.assign (lt1 rfl) (.const _ _ _))<| .cons (.assign (lt1 rfl) (.const _ _ _))<| ARun.nil _ _ _) ?_
    refine AWP.ret ?_
    obtain rfl := Option.some.inj h
    refine retJ (Res.vc (s' := ⟨[(4,.sc (.int .i64 (0 : Int))),(5,.sc (.int .i64 (1 : Int)))],[]⟩) (VC.sub (.c rfl<| .c rfl<| .n _) (.n _)) ?_)
    refine Res.drop (H := []) rfl ?_
    exact Res.of rfl (.cons (.tmp rfl) (.cons (.tmp rfl) (.nil))) rfl rfl
  · have h := iteF hc h
    refine AWP.seq ?_
    obtain ⟨y_2,hy_2,h⟩ := bindS h
    refine AWP.region (.cons (.loadPA (lt1 rfl) (.tmp rfl) agg32 rfl rfl rfl rfl)<| .cons (.move (lt1 rfl) (.tmp rfl))<| .cons (.call0 (bw := false) (lt1 rfl) (c67 (β1 := β1) (β2 := β2) (β3 := β3) n (R24.mk a0.Points a0.Before) a1 hy_2) (.cons (.tmp rfl) (.ren rfl) (.cons (.tmp rfl) (.ren rfl) (.nil))) rfl)<| .cons (.not (lt1 rfl) (.tmp rfl))<| .cons (.assign (lt1 rfl) (.tmp rfl))<| ARun.nil _ _ _) ?_
    refine AWP.vc (s' := ⟨[(1,.rd β3 a1.length (a1.flatMap (encI .i64))),(2,.ptr 1 0),(10,.sc (.bool (!y_2)))],[(1,⟨32,false,[.rd β1 a0.Points.length (a0.Points.flatMap encR45),.rd β2 a0.Before.length (a0.Before.flatMap encR93)]⟩)]⟩) (VC.sub (.c rfl<| .c rfl<| .c rfl<| .n _) (.c rfl<| .n _)) ?_
    refine AWP.cond (.tmp rfl) (fun hc => ?_) (fun hc => ?_)
    · have h := iteT hc h
      refine AWP.seq ?_
      refine AWP.region (.cons (.assign (lt1 rfl) (.const _ _ _))<| .cons (.assign (lt1 rfl) (.const _ _ _))<| ARun.nil _ _ _) ?_
      refine AWP.ret ?_
      obtain rfl := Option.some.inj h
      refine retJ (Res.vc (s' := ⟨[(4,.sc (.int .i64 (0 : Int))),(5,.sc (.int .i64 (22 : Int)))],[]⟩) (VC.sub (.c rfl<| .c rfl<| .n _) (.n _)) ?_)
      refine Res.drop (H := []) rfl ?_
      exact Res.of rfl (.cons (.tmp rfl) (.cons (.tmp rfl) (.nil))) rfl rfl
    · have h := iteF hc h
      refine AWP.skip ?_
      refine AWP.seq ?_
      obtain ⟨y_3,hy_3,h⟩ := bindS h
      refine AWP.region (.cons (.loadPA (lt1 rfl) (.tmp rfl) agg32 rfl rfl rfl rfl)<| .cons (.move (lt1 rfl) (.tmp rfl))<| .cons (.call0 (bw := false) (lt1 rfl) (c68 (β1 := β1) (β2 := β2) (β3 := β3) n (R24.mk a0.Points a0.Before) a1 hy_3) (.cons (.tmp rfl) (.ren rfl) (.cons (.tmp rfl) (.ren rfl) (.nil))) rfl)<| .cons (.assign (lt1 rfl) (.tmp rfl))<| .cons (.assign (lt1 rfl) (.const _ _ _))<| ARun.nil _ _ _) ?_
      refine AWP.ret ?_
      obtain rfl := Option.some.inj h
      refine retJ (Res.vc (s' := ⟨[(4,.sc (.int .i64 y_3)),(5,.sc (.int .i64 (0 : Int)))],[]⟩) (VC.sub (.c rfl<| .c rfl<| .n _) (.n _)) ?_)
      refine Res.drop (H := []) rfl ?_
      exact Res.of rfl (.cons (.tmp rfl) (.cons (.tmp rfl) (.nil))) rfl rfl
theorem c37 {β1 : Bool} {β2 : Bool} {β3 : Bool} (n : Nat) (a0 : R24) (a1 : (List Int)) {r : Bool} (h : m37 n a0 a1 = some r) : Spec Try.prog 37 [] [.agg [.rd β1 a0.Points.length (a0.Points.flatMap encR45),.rd β2 a0.Before.length (a0.Before.flatMap encR93)],.rd β3 a1.length (a1.flatMap (encI .i64))] [] (.sc (.bool r)) [] := by
  refine Spec.of (fn := Try.f37) Try.func37 Try.ntmps37 rfl rfl (le1 rfl) (fun w0 Zs Zb T0 ι0 => ?_)
  unfold m37 at h
  refine AWP.seq ?_
  refine AWP.region (.cons (.box (t := 1) (n := 2) (lt1 rfl) (nm rfl) (.tmp rfl) (by first | exact ⟨rfl,rfl⟩ | rfl) rfl)<| .cons (.assign (lt1 rfl) (.const _ _ _))<| ARun.nil _ _ _) ?_
  refine AWP.vc (s' := ⟨[(1,.rd β3 a1.length (a1.flatMap (encI .i64))),(2,.ptr 1 0)],[(1,⟨25,false,[.rd β1 a0.Points.length (a0.Points.flatMap encR45),.rd β2 a0.Before.length (a0.Before.flatMap encR93)]⟩)]⟩) (VC.sub (.c rfl<| .c rfl<| .n _) (.c rfl<| .n _)) ?_
  refine AWP.seq ?_
  refine AWP.seq ?_
  obtain ⟨y_1,hy_1,h⟩ := bindS h
  refine AWP.region (.cons (.move (lt1 rfl) (.tmp rfl))<| .cons (.lenRd (lt1 rfl) (.tmp rfl) Try.underlying28)<| .cons (.fieldP (lt1 rfl) (.tmp rfl) fld25_0)<| .cons (.loadP (lt1 rfl) (.tmp rfl) one22 rfl rfl rfl)<| .cons (.lenRd (lt1 rfl) (.tmp rfl) Try.underlying22)<| .cons (.neq (lt1 rfl) (.tmp rfl) (.tmp rfl))<| .cons (.move (lt1 rfl) (.tmp rfl))<| .guard (j := 6) (dj := 12) rfl (lt1 rfl) rfl (lt1 rfl) (fun hg => .move (lt1 rfl) (.tmp rfl))<| .guard (j := 6) (dj := 12) rfl (lt1 rfl) rfl (lt1 rfl) (fun hg => .indexRd (enc := (encI .i64)) (lt1 rfl) (.gd hg (.tmp rfl)) (.const _ _ _) Try.underlying28 sz3 (encI_len .i64) rfl (gdB hy_1 hg))<| .guard (j := 6) (dj := 12) rfl (lt1 rfl) rfl (lt1 rfl) (fun hg => .loadR (v := .sc (.int .i64 y_1)) (lt1 rfl) (.gd hg (.tmp rfl)) one3 rfl)<| .guard (j := 6) (dj := 12) rfl (lt1 rfl) rfl (lt1 rfl) (fun hg => .neq (lt1 rfl) (.gd hg (.tmp rfl)) (.const _ _ _))<| .cons (.pickOr (lt1 rfl) (.tmp rfl) (.const _ _ _) (.tmp rfl))<| ARun.nil _ _ _) ?_
  refine AWP.vc (s' := ⟨[(1,.rd β3 a1.length (a1.flatMap (encI .i64))),(2,.ptr 1 0),(17,.sc (.bool ((!decide ((a1.length : Int) = (a0.Points.length : Int))) || (!decide (y_1 = (0 : Int))))))],[(1,⟨25,false,[.rd β1 a0.Points.length (a0.Points.flatMap encR45),.rd β2 a0.Before.length (a0.Before.flatMap encR93)]⟩)]⟩) (VC.sub (.c rfl<| .c rfl<| .c rfl<| .n _) (.c rfl<| .n _)) ?_
  refine AWP.cond (.tmp rfl) (fun hc => ?_) (fun hc => ?_)
  · have h := iteT hc h
    refine AWP.seq ?_
    refine AWP.region (.cons (.assign (lt1 rfl) (.const _ _ _))<| ARun.nil _ _ _) ?_
    refine AWP.ret ?_
    obtain rfl := Option.some.inj h
    refine retJ (Res.vc (s' := ⟨[(4,.sc (.bool false))],[]⟩) (VC.sub (.c rfl<| .n _) (.n _)) ?_)
    refine Res.drop (H := []) rfl ?_
    exact Res.of rfl (.cons (.tmp rfl) (.nil)) rfl rfl
  · have h := iteF hc h
    refine AWP.skip ?_
    refine AWP.seq ?_
    refine AWP.seq ?_
    refine AWP.region (.cons (.assign (lt1 rfl) (.const _ _ _))<| ARun.nil _ _ _) ?_
    refine AWP.vc (s' := ⟨[(1,.rd β3 a1.length (a1.flatMap (encI .i64))),(2,.ptr 1 0),(5,.sc (.int .i64 (1 : Int)))],[(1,⟨25,false,[.rd β1 a0.Points.length (a0.Points.flatMap encR45),.rd β2 a0.Before.length (a0.Before.flatMap encR93)]⟩)]⟩) (VC.sub (.c rfl<| .c rfl<| .c rfl<| .n _) (.c rfl<| .n _)) ?_
    refine AWP.joinB' (S := fun p_15 : Unit => ⟨[],[]⟩) h (fun p_15 h => ?_) (fun k_16 h => ?_)
    · refine AWP.seq ?_
      refine AWP.region (.cons (.assign (lt1 rfl) (.const _ _ _))<| ARun.nil _ _ _) ?_
      refine AWP.ret ?_
      obtain rfl := Option.some.inj h
      refine retJ (Res.vc (s' := ⟨[(4,.sc (.bool true))],[]⟩) (VC.sub (.c rfl<| .n _) (.n _)) ?_)
      refine Res.drop (H := []) rfl ?_
      exact Res.of rfl (.cons (.tmp rfl) (.nil)) rfl rfl
    · refine AWP.vc (s' := ⟨[(1,.rd β3 a1.length (a1.flatMap (encI .i64))),(2,.ptr 1 0),(5,.sc (.int .i64 (1 : Int)))],[(1,⟨25,false,[.rd β1 a0.Points.length (a0.Points.flatMap encR45),.rd β2 a0.Before.length (a0.Before.flatMap encR93)]⟩)]⟩) (VC.sub (.c rfl<| .c rfl<| .c rfl<| .n _) (.c rfl<| .n _)) ?_
      refine AWP.loopM (S := fun x_8 : Int => ⟨[(1,.rd β3 a1.length (a1.flatMap (encI .i64))),(2,.ptr 1 0),(5,.sc (.int .i64 x_8))],[(1,⟨25,false,[.rd β1 a0.Points.length (a0.Points.flatMap encR45),.rd β2 a0.Before.length (a0.Before.flatMap encR93)]⟩)]⟩) (x := (1 : Int)) (fun nx_9 x_8 h => ?_) h
      unfold m37_L1 at h
      refine AWP.seq ?_
      refine AWP.seq ?_
      refine AWP.region (.cons (.move (lt1 rfl) (.tmp rfl))<| .cons (.move (lt1 rfl) (.tmp rfl))<| .cons (.lenRd (lt1 rfl) (.tmp rfl) Try.underlying28)<| .cons (.lss (lt1 rfl) (.tmp rfl) (.tmp rfl))<| ARun.nil _ _ _) ?_
      refine AWP.vc (s' := ⟨[(1,.rd β3 a1.length (a1.flatMap (encI .i64))),(2,.ptr 1 0),(5,.sc (.int .i64 x_8)),(21,.sc (.bool (decide (x_8 < (a1.length : Int)))))],[(1,⟨25,false,[.rd β1 a0.Points.length (a0.Points.flatMap encR45),.rd β2 a0.Before.length (a0.Before.flatMap encR93)]⟩)]⟩) (VC.sub (.c rfl<| .c rfl<| .c rfl<| .c rfl<| .n _) (.c rfl<| .n _)) ?_
      refine AWP.cond (.tmp rfl) (fun hc => ?_) (fun hc => ?_)
      · have h := iteT hc h
        refine AWP.skip ?_
        refine AWP.seq ?_
        refine AWP.block ?_
        refine AWP.seq ?_
        obtain ⟨s_10,hs_10,h⟩ := bindS h
        obtain ⟨y_11,hy_11,h⟩ := bindS h
        obtain ⟨y_12,hy_12,h⟩ := bindS h
        obtain ⟨y_13,hy_13,h⟩ := bindS h
        refine AWP.draw (s' := ⟨[(1,.rd β3 a1.length (a1.flatMap (encI .i64))),(2,.ptr 1 0),(5,.sc (.int .i64 x_8)),(34,.sc (.bool (!y_13)))],[(1,⟨25,false,[.rd β1 a0.Points.length (a0.Points.flatMap encR45),.rd β2 a0.Before.length (a0.Before.flatMap encR93)]⟩)]⟩) mixed [⟨1,.rd β3 a1.length (a1.flatMap (encI .i64)),none,[]⟩,⟨2,.ptr 1 0,none,[]⟩,⟨5,.sc (.int .i64 x_8),none,[]⟩,⟨21,.sc (.bool (decide (x_8 < (a1.length : Int)))),none,[]⟩,⟨24,.agg [.rd β1 a0.Points.length (a0.Points.flatMap encR45),.rd β2 a0.Before.length (a0.Before.flatMap encR93)],some 0,[]⟩,⟨25,.rd β3 a1.length (a1.flatMap (encI .i64)),some 1,[]⟩,⟨26,.sc (.int .i64 x_8),some 2,[]⟩,⟨27,.rd β3 s_10.length (s_10.flatMap (encI .i64)),some 3,[]⟩,⟨28,.rd false y_11.length (y_11.flatMap (encI .i64)),some 4,[]⟩,⟨29,.rd β3 a1.length (a1.flatMap (encI .i64)),some 5,[]⟩,⟨30,.sc (.int .i64 x_8),some 6,[]⟩,⟨31,.rptr β3 [.sc (.int .i64 y_12)],some 7,[]⟩,⟨32,.sc (.int .i64 y_12),some 8,[]⟩,⟨33,.sc (.bool y_13),some 9,[]⟩,⟨34,.sc (.bool (!y_13)),some 10,[]⟩] [⟨[1],0,0,some (24,.agg [.rd β1 a0.Points.length (a0.Points.flatMap encR45),.rd β2 a0.Before.length (a0.Before.flatMap encR93)]),[]⟩,⟨[0],0,0,some (25,.rd β3 a1.length (a1.flatMap (encI .i64))),[]⟩,⟨[2],0,0,some (26,.sc (.int .i64 x_8)),[]⟩,⟨[5,6],0,0,some (27,.rd β3 s_10.length (s_10.flatMap (encI .i64))),[]⟩,⟨[4,7],0,0,some (28,.rd false y_11.length (y_11.flatMap (encI .i64))),[]⟩,⟨[0],0,0,some (29,.rd β3 a1.length (a1.flatMap (encI .i64))),[]⟩,⟨[2],0,0,some (30,.sc (.int .i64 x_8)),[]⟩,⟨[9,10],0,0,some (31,.rptr β3 [.sc (.int .i64 y_12)]),[]⟩,⟨[11],0,0,some (32,.sc (.int .i64 y_12)),[]⟩,⟨[8,12],0,0,some (33,.sc (.bool y_13)),[]⟩,⟨[13],0,0,some (34,.sc (.bool (!y_13))),[]⟩] [] [[(1,⟨25,false,[.rd β1 a0.Points.length (a0.Points.flatMap encR45),.rd β2 a0.Before.length (a0.Before.flatMap encR93)]⟩)]] [[],[],[],[1,2],[0,1,2,3],[],[],[5,6],[5,6,7],[0,1,2,3,4,5,6,7,8],[0,1,2,3,4,5,6,7,8,9]] (by kernel_rfl) (by kernel_rfl) (BornL.ok (.o<| .o<| .o<| .o<| .b rfl rfl<| .b rfl rfl<| .b rfl rfl<| .b rfl rfl<| .b rfl rfl<| .b rfl rfl<| .b rfl rfl<| .b rfl rfl<| .b rfl rfl<| .b rfl rfl<| .b rfl rfl<| .n)) (BaseL.ok (.o rfl<| .o rfl<| .o rfl<| .o rfl<| .b<| .b<| .b<| .b<| .b<| .b<| .b<| .b<| .b<| .b<| .b<| .n)) rfl (by decide) (allLt rfl) (.read rfl (.c (.put (fun E hE => .loadPA (lt1 rfl) (.tmp (hE.at (k := 0) rfl)) agg25 rfl rfl rfl rfl)) .n)<| .pure rfl (fun H => .put (fun E hE => .move (lt1 rfl) (.tmp (hE.at (k := 0) rfl))))<| .pure rfl (fun H => .put (fun E hE => .move (lt1 rfl) (.tmp (hE.at (k := 0) rfl))))<| .pure rfl (fun H => .put (fun E hE => .slRd (enc := (encI .i64)) (lt1 rfl) (.tmp (hE.at (k := 0) rfl)) Try.underlying28 sz3 (encI_len .i64) rfl (.none _ _ _) (.some (.tmp (hE.at (k := 1) rfl))) hs_10))<| .pure rfl (fun H => .put (fun E hE => .call0 (bw := false) (lt1 rfl) (c45 (β1 := β1) (β2 := β2) (β3 := β3) n (R24.mk a0.Points a0.Before) s_10 hy_11) (.cons (.tmp (hE.at (k := 0) rfl)) (.ren rfl) (.cons (.tmp (hE.at (k := 1) rfl)) (.ren rfl) (.nil))) rfl))<| .pure rfl (fun H => .put (fun E hE => .move (lt1 rfl) (.tmp (hE.at (k := 0) rfl))))<| .pure rfl (fun H => .put (fun E hE => .move (lt1 rfl) (.tmp (hE.at (k := 0) rfl))))<| .pure rfl (fun H => .put (fun E hE => .indexRd (enc := (encI .i64)) (lt1 rfl) (.tmp (hE.at (k := 0) rfl)) (.tmp (hE.at (k := 1) rfl)) Try.underlying28 sz3 (encI_len .i64) rfl hy_12))<| .pure rfl (fun H => .put (fun E hE => .loadR (v := .sc (.int .i64 y_12)) (lt1 rfl) (.tmp (hE.at (k := 0) rfl)) one3 rfl))<| .pure rfl (fun H => .put (fun E hE => .call0 (bw := false) (lt1 rfl) (c73 (β1 := false) n y_11 y_12 hy_13) (.cons (.tmp (hE.at (k := 0) rfl)) (.ren rfl) (.cons (.tmp (hE.at (k := 1) rfl)) (.ren rfl) (.nil))) rfl))<| .pure rfl (fun H => .put (fun E hE => .not (lt1 rfl) (.tmp (hE.at (k := 0) rfl))))<| .nil _) (fun E hE => .c (DInv.at hE (k := 0) rfl rfl rfl)<| .c (DInv.at hE (k := 1) rfl rfl rfl)<| .c (DInv.at hE (k := 2) rfl rfl rfl)<| .c (DInv.at hE (k := 14) rfl rfl rfl)<| .n _) rfl ?_
        refine AWP.vc (s' := ⟨[(1,.rd β3 a1.length (a1.flatMap (encI .i64))),(2,.ptr 1 0),(5,.sc (.int .i64 x_8)),(34,.sc (.bool (!y_13)))],[(1,⟨25,false,[.rd β1 a0.Points.length (a0.Points.flatMap encR45),.rd β2 a0.Before.length (a0.Before.flatMap encR93)]⟩)]⟩) (VC.sub (.c rfl<| .c rfl<| .c rfl<| .c rfl<| .n _) (.c rfl<| .n _)) ?_
        refine AWP.cond (.tmp rfl) (fun hc => ?_) (fun hc => ?_)
        · have h := iteT hc h
          refine AWP.seq ?_
          refine AWP.region (.cons (.assign (lt1 rfl) (.const _ _ _))<| ARun.nil _ _ _) ?_
          refine AWP.ret ?_
          obtain rfl := Option.some.inj h
          refine retJ (Res.vc (s' := ⟨[(4,.sc (.bool false))],[]⟩) (VC.sub (.c rfl<| .n _) (.n _)) ?_)
          refine Res.drop (H := []) rfl ?_
          exact Res.of rfl (.cons (.tmp rfl) (.nil)) rfl rfl
        · have h := iteF hc h
          refine AWP.skip ?_
          obtain ⟨t5_14,ht5_14,h⟩ := letS h
          refine AWP.region (.cons (.move (lt1 rfl) (.tmp rfl))<| .cons (.add (lt1 rfl) (.tmp rfl) (.const _ _ _))<| .cons (.assign (lt1 rfl) (.tmp rfl))<| ARun.nil _ _ _) ?_
          exact endJ t5_14 h (by subst ht5_14; exact VC.sub (.c rfl<| .c rfl<| .c rfl<| .n _) (.c rfl<| .n _))
      · have h := iteF hc h
        refine AWP.exit ?_
        exact endJ () h (VC.sub (.n _) (.n _))
theorem c30 {β1 : Bool} {β2 : Bool} {β3 : Bool} (n : Nat) (a0 : R24) (a1 : (List Int)) {r : (Int × Int)} (h : m30 n a0 a1 = some r) : Spec Try.prog 30 [] [.agg [.rd β1 a0.Points.length (a0.Points.flatMap encR45),.rd β2 a0.Before.length (a0.Before.flatMap encR93)],.rd β3 a1.length (a1.flatMap (encI .i64))] [] (.tup [.sc (.int .i64 r.1),.sc (.int .i64 r.2)]) [] := by
  refine Spec.of (fn := Try.f30) Try.func30 Try.ntmps30 rfl rfl (le1 rfl) (fun w0 Zs Zb T0 ι0 => ?_)
  unfold m30 at h
  refine AWP.seq ?_
  refine AWP.region (.cons (.box (t := 1) (n := 2) (lt1 rfl) (nm rfl) (.tmp rfl) (by first | exact ⟨rfl,rfl⟩ | rfl) rfl)<| .cons (.assign (lt1 rfl) (.const _ _ _))<| .cons (.assign (lt1 rfl) (.const _ _ _))<| ARun.nil _ _ _) ?_
  refine AWP.vc (s' := ⟨[(1,.rd β3 a1.length (a1.flatMap (encI .i64))),(2,.ptr 1 0)],[(1,⟨25,false,[.rd β1 a0.Points.length (a0.Points.flatMap encR45),.rd β2 a0.Before.length (a0.Before.flatMap encR93)]⟩)]⟩) (VC.sub (.c rfl<| .c rfl<| .n _) (.c rfl<| .n _)) ?_
  refine AWP.seq ?_
  refine AWP.block ?_
  refine AWP.seq ?_
  obtain ⟨y_1,hy_1,h⟩ := bindS h
  refine AWP.region (.cons (.loadPA (lt1 rfl) (.tmp rfl) agg25 rfl rfl rfl rfl)<| .cons (.call0 (bw := false) (lt1 rfl) (c15 (β1 := β1) (β2 := β2) n (R24.mk a0.Points a0.Before) hy_1) (.cons (.tmp rfl) (.ren rfl) (.nil)) rfl)<| .cons (.not (lt1 rfl) (.tmp rfl))<| .cons (.assign (lt1 rfl) (.tmp rfl))<| ARun.nil _ _ _) ?_
  refine AWP.vc (s' := ⟨[(1,.rd β3 a1.length (a1.flatMap (encI .i64))),(2,.ptr 1 0),(6,.sc (.bool (!y_1)))],[(1,⟨25,false,[.rd β1 a0.Points.length (a0.Points.flatMap encR45),.rd β2 a0.Before.length (a0.Before.flatMap encR93)]⟩)]⟩) (VC.sub (.c rfl<| .c rfl<| .c rfl<| .n _) (.c rfl<| .n _)) ?_
  refine AWP.cond (.tmp rfl) (fun hc => ?_) (fun hc => ?_)
  · have h := iteT hc h
    refine AWP.seq ?_
    refine AWP.region (.cons (.assign (lt1 rfl) (.const _ _ _))<| .cons (.assign (lt1 rfl) (.const _ _ _))<| ARun.nil _ _ _) ?_
    refine AWP.ret ?_
    obtain rfl := Option.some.inj h
    refine retJ (Res.vc (s' := ⟨[(4,.sc (.int .i64 (0 : Int))),(5,.sc (.int .i64 (1 : Int)))],[]⟩) (VC.sub (.c rfl<| .c rfl<| .n _) (.n _)) ?_)
    refine Res.drop (H := []) rfl ?_
    exact Res.of rfl (.cons (.tmp rfl) (.cons (.tmp rfl) (.nil))) rfl rfl
  · have h := iteF hc h
    refine AWP.seq ?_
    obtain ⟨y_2,hy_2,h⟩ := bindS h
    refine AWP.region (.cons (.loadPA (lt1 rfl) (.tmp rfl) agg25 rfl rfl rfl rfl)<| .cons (.move (lt1 rfl) (.tmp rfl))<| .cons (.call0 (bw := false) (lt1 rfl) (c37 (β1 := β1) (β2 := β2) (β3 := β3) n (R24.mk a0.Points a0.Before) a1 hy_2) (.cons (.tmp rfl) (.ren rfl) (.cons (.tmp rfl) (.ren rfl) (.nil))) rfl)<| .cons (.not (lt1 rfl) (.tmp rfl))<| .cons (.assign (lt1 rfl) (.tmp rfl))<| ARun.nil _ _ _) ?_
    refine AWP.vc (s' := ⟨[(1,.rd β3 a1.length (a1.flatMap (encI .i64))),(2,.ptr 1 0),(10,.sc (.bool (!y_2)))],[(1,⟨25,false,[.rd β1 a0.Points.length (a0.Points.flatMap encR45),.rd β2 a0.Before.length (a0.Before.flatMap encR93)]⟩)]⟩) (VC.sub (.c rfl<| .c rfl<| .c rfl<| .n _) (.c rfl<| .n _)) ?_
    refine AWP.cond (.tmp rfl) (fun hc => ?_) (fun hc => ?_)
    · have h := iteT hc h
      refine AWP.seq ?_
      refine AWP.region (.cons (.assign (lt1 rfl) (.const _ _ _))<| .cons (.assign (lt1 rfl) (.const _ _ _))<| ARun.nil _ _ _) ?_
      refine AWP.ret ?_
      obtain rfl := Option.some.inj h
      refine retJ (Res.vc (s' := ⟨[(4,.sc (.int .i64 (0 : Int))),(5,.sc (.int .i64 (22 : Int)))],[]⟩) (VC.sub (.c rfl<| .c rfl<| .n _) (.n _)) ?_)
      refine Res.drop (H := []) rfl ?_
      exact Res.of rfl (.cons (.tmp rfl) (.cons (.tmp rfl) (.nil))) rfl rfl
    · have h := iteF hc h
      refine AWP.skip ?_
      refine AWP.seq ?_
      obtain ⟨y_3,hy_3,h⟩ := bindS h
      refine AWP.region (.cons (.loadPA (lt1 rfl) (.tmp rfl) agg25 rfl rfl rfl rfl)<| .cons (.move (lt1 rfl) (.tmp rfl))<| .cons (.call0 (bw := false) (lt1 rfl) (c20 (β1 := β1) (β2 := β2) (β3 := β3) n (R24.mk a0.Points a0.Before) a1 hy_3) (.cons (.tmp rfl) (.ren rfl) (.cons (.tmp rfl) (.ren rfl) (.nil))) rfl)<| .cons (.assign (lt1 rfl) (.tmp rfl))<| .cons (.assign (lt1 rfl) (.const _ _ _))<| ARun.nil _ _ _) ?_
      refine AWP.ret ?_
      obtain rfl := Option.some.inj h
      refine retJ (Res.vc (s' := ⟨[(4,.sc (.int .i64 y_3)),(5,.sc (.int .i64 (0 : Int)))],[]⟩) (VC.sub (.c rfl<| .c rfl<| .n _) (.n _)) ?_)
      refine Res.drop (H := []) rfl ?_
      exact Res.of rfl (.cons (.tmp rfl) (.cons (.tmp rfl) (.nil))) rfl rfl
theorem c94 {β1 : Bool} {β2 : Bool} (n : Nat) (a0 : Int) (a1 : Int) (a2_b0 : (List R45)) (a2_b1 : (List R93)) (a3_b0 : Int) {r : Int} (h : m94 n a0 a1 a2_b0 a2_b1 a3_b0 = some r) : Spec Try.prog 94 [1,2] [.sc (.int .i64 a0),.sc (.int .i64 a1),.ptr 1 0,.ptr 2 0] [(1,⟨32,false,[.rd β1 a2_b0.length (a2_b0.flatMap encR45),.rd β2 a2_b1.length (a2_b1.flatMap encR93)]⟩),(2,⟨3,false,[.sc (.int .i64 a3_b0)]⟩)] (.sc (.int .i64 r)) [(1,⟨32,false,[.rd β1 a2_b0.length (a2_b0.flatMap encR45),.rd β2 a2_b1.length (a2_b1.flatMap encR93)]⟩),(2,⟨3,false,[.sc (.int .i64 a3_b0)]⟩)] := by
  refine Spec.of (fn := Try.f94) Try.func94 Try.ntmps94 rfl rfl (le1 rfl) (fun w0 Zs Zb T0 ι0 => ?_)
  unfold m94 at h
  refine AWP.seq ?_
  refine AWP.region (.cons (.assign (lt1 rfl) (.const _ _ _))<| ARun.nil _ _ _) ?_
  refine AWP.vc (s' := ⟨[(0,.sc (.int .i64 a0)),(1,.sc (.int .i64 a1)),(2,.ptr 1 0),(3,.ptr 2 0)],[(1,⟨32,false,[.rd β1 a2_b0.length (a2_b0.flatMap encR45),.rd β2 a2_b1.length (a2_b1.flatMap encR93)]⟩),(2,⟨3,false,[.sc (.int .i64 a3_b0)]⟩)]⟩) (VC.sub (.c rfl<| .c rfl<| .c rfl<| .c rfl<| .n _) (.c rfl<| .c rfl<| .n _)) ?_
  refine AWP.seq ?_
  obtain ⟨y_1,hy_1,h⟩ := bindS h
  obtain ⟨y_2,hy_2,h⟩ := bindS h
  obtain ⟨t6_3,ht6_3,h⟩ := letS h
  refine AWP.draw (s' := ⟨[(6,.sc (.int .i64 (IntKind.wrap .i64 (y_1 - y_2))))],[(1,⟨32,false,[.rd β1 a2_b0.length (a2_b0.flatMap encR45),.rd β2 a2_b1.length (a2_b1.flatMap encR93)]⟩),(2,⟨3,false,[.sc (.int .i64 a3_b0)]⟩)]⟩) mixed [⟨0,.sc (.int .i64 a0),none,[]⟩,⟨1,.sc (.int .i64 a1),none,[]⟩,⟨2,.ptr 1 0,none,[]⟩,⟨3,.ptr 2 0,none,[]⟩,⟨7,.agg [.rd β1 a2_b0.length (a2_b0.flatMap encR45),.rd β2 a2_b1.length (a2_b1.flatMap encR93)],some 0,[]⟩,⟨8,.sc (.int .i64 a3_b0),some 1,[]⟩,⟨9,.sc (.int .i64 a0),some 2,[]⟩,⟨10,.sc (.int .i64 y_1),some 3,[]⟩,⟨11,.agg [.rd β1 a2_b0.length (a2_b0.flatMap encR45),.rd β2 a2_b1.length (a2_b1.flatMap encR93)],some 4,[]⟩,⟨12,.sc (.int .i64 a3_b0),some 5,[]⟩,⟨13,.sc (.int .i64 a1),some 6,[]⟩,⟨14,.sc (.int .i64 y_2),some 7,[]⟩,⟨15,.sc (.int .i64 (IntKind.wrap .i64 (y_1 - y_2))),some 8,[]⟩,⟨6,.sc (.int .i64 (IntKind.wrap .i64 (y_1 - y_2))),some 9,[]⟩] [⟨[2],0,0,some (7,.agg [.rd β1 a2_b0.length (a2_b0.flatMap encR45),.rd β2 a2_b1.length (a2_b1.flatMap encR93)]),[]⟩,⟨[3],0,0,some (8,.sc (.int .i64 a3_b0)),[]⟩,⟨[0],0,0,some (9,.sc (.int .i64 a0)),[]⟩,⟨[4,5,6],0,0,some (10,.sc (.int .i64 y_1)),[]⟩,⟨[2],0,0,some (11,.agg [.rd β1 a2_b0.length (a2_b0.flatMap encR45),.rd β2 a2_b1.length (a2_b1.flatMap encR93)]),[]⟩,⟨[3],0,0,some (12,.sc (.int .i64 a3_b0)),[]⟩,⟨[1],0,0,some (13,.sc (.int .i64 a1)),[]⟩,⟨[8,9,10],0,0,some (14,.sc (.int .i64 y_2)),[]⟩,⟨[7,11],0,0,some (15,.sc (.int .i64 (IntKind.wrap .i64 (y_1 - y_2)))),[]⟩,⟨[12],0,0,some (6,.sc (.int .i64 (IntKind.wrap .i64 (y_1 - y_2)))),[]⟩] [] [[(1,⟨32,false,[.rd β1 a2_b0.length (a2_b0.flatMap encR45),.rd β2 a2_b1.length (a2_b1.flatMap encR93)]⟩),(2,⟨3,false,[.sc (.int .i64 a3_b0)]⟩)]] [[],[],[],[0,1,2],[],[],[],[0,1,2,3,4,5,6],[0,1,2,3,4,5,6,7],[0,1,2,3,4,5,6,7,8]] (by kernel_rfl) (by kernel_rfl) (BornL.ok (.o<| .o<| .o<| .o<| .b rfl rfl<| .b rfl rfl<| .b rfl rfl<| .b rfl rfl<| .b rfl rfl<| .b rfl rfl<| .b rfl rfl<| .b rfl rfl<| .b rfl rfl<| .b rfl rfl<| .n)) (BaseL.ok (.o rfl<| .o rfl<| .o rfl<| .o rfl<| .b<| .b<| .b<| .b<| .b<| .b<| .b<| .b<| .b<| .b<| .n)) rfl (by decide) (allLt rfl) (.read rfl (.c (.put (fun E hE => .loadPA (lt1 rfl) (.tmp (hE.at (k := 0) rfl)) agg32 rfl rfl rfl rfl)) .n)<| .read rfl (.c (.put (fun E hE => .loadP (lt1 rfl) (.tmp (hE.at (k := 0) rfl)) one3 rfl rfl rfl)) .n)<| .pure rfl (fun H => .put (fun E hE => .move (lt1 rfl) (.tmp (hE.at (k := 0) rfl))))<| .pure rfl (fun H => .put (fun E hE => .call0 (bw := false) (lt1 rfl) (c79 (β1 := β1) (β2 := β2) n (R24.mk a2_b0 a2_b1) a3_b0 a0 hy_1) (.cons (.tmp (hE.at (k := 0) rfl)) (.ren rfl) (.cons (.tmp (hE.at (k := 1) rfl)) (.ren rfl) (.cons (.tmp (hE.at (k := 2) rfl)) (.ren rfl) (.nil)))) rfl))<| .read rfl (.c (.put (fun E hE => .loadPA (lt1 rfl) (.tmp (hE.at (k := 0) rfl)) agg32 rfl rfl rfl rfl)) .n)<| .read rfl (.c (.put (fun E hE => .loadP (lt1 rfl) (.tmp (hE.at (k := 0) rfl)) one3 rfl rfl rfl)) .n)<| .pure rfl (fun H => .put (fun E hE => .move (lt1 rfl) (.tmp (hE.at (k := 0) rfl))))<| .pure rfl (fun H => .put (fun E hE => .call0 (bw := false) (lt1 rfl) (c79 (β1 := β1) (β2 := β2) n (R24.mk a2_b0 a2_b1) a3_b0 a1 hy_2) (.cons (.tmp (hE.at (k := 0) rfl)) (.ren rfl) (.cons (.tmp (hE.at (k := 1) rfl)) (.ren rfl) (.cons (.tmp (hE.at (k := 2) rfl)) (.ren rfl) (.nil)))) rfl))<| .pure rfl (fun H => .put (fun E hE => .sub (lt1 rfl) (.tmp (hE.at (k := 0) rfl)) (.tmp (hE.at (k := 1) rfl))))<| .pure rfl (fun H => .put (fun E hE => .assign (lt1 rfl) (.tmp (hE.at (k := 0) rfl))))<| .nil _) (fun E hE => .c (DInv.at hE (k := 13) rfl rfl rfl)<| .n _) rfl ?_
  refine AWP.ret ?_
  obtain rfl := Option.some.inj h
  refine retJ (Res.vc (s' := ⟨[(6,.sc (.int .i64 t6_3))],[(1,⟨32,false,[.rd β1 a2_b0.length (a2_b0.flatMap encR45),.rd β2 a2_b1.length (a2_b1.flatMap encR93)]⟩),(2,⟨3,false,[.sc (.int .i64 a3_b0)]⟩)]⟩) (by subst ht6_3; exact VC.sub (.c rfl<| .n _) (.c rfl<| .c rfl<| .n _)) ?_)
  refine Res.sub (H := [(1,⟨32,false,[.rd β1 a2_b0.length (a2_b0.flatMap encR45),.rd β2 a2_b1.length (a2_b1.flatMap encR93)]⟩),(2,⟨3,false,[.sc (.int .i64 a3_b0)]⟩)]) (.c rfl<| .c rfl<| .n _) ?_
  exact Res.of rfl (.cons (.tmp rfl) (.nil)) rfl rfl
theorem c93 {β1 : Bool} {β2 : Bool} {β3 : Bool} (n : Nat) (a0 : (List Int)) (a1_0_b0 : (List R45)) (a1_0_b1 : (List R93)) (a1_1_b0 : Int) {r : Int} (h : m93 n a0 a1_0_b0 a1_0_b1 a1_1_b0 = some r) : Spec Try.prog 93 [1,2] [.rd β1 a0.length (a0.flatMap (encI .i64)),.clo (.func 94) [] [.ptr 1 0,.ptr 2 0]] [(1,⟨32,false,[.rd β2 a1_0_b0.length (a1_0_b0.flatMap encR45),.rd β3 a1_0_b1.length (a1_0_b1.flatMap encR93)]⟩),(2,⟨3,false,[.sc (.int .i64 a1_1_b0)]⟩)] (.sc (.int .i64 r)) [(1,⟨32,false,[.rd β2 a1_0_b0.length (a1_0_b0.flatMap encR45),.rd β3 a1_0_b1.length (a1_0_b1.flatMap encR93)]⟩),(2,⟨3,false,[.sc (.int .i64 a1_1_b0)]⟩)] := by
  refine Spec.of (fn := Try.f93) Try.func93 Try.ntmps93 rfl rfl (le1 rfl) (fun w0 Zs Zb T0 ι0 => ?_)
  unfold m93 at h
  refine AWP.seq ?_
  refine AWP.region (.cons (.assign (lt1 rfl) (.const _ _ _))<| ARun.nil _ _ _) ?_
  refine AWP.vc (s' := ⟨[(0,.rd β1 a0.length (a0.flatMap (encI .i64))),(1,.clo (.func 94) [] [.ptr 1 0,.ptr 2 0])],[(1,⟨32,false,[.rd β2 a1_0_b0.length (a1_0_b0.flatMap encR45),.rd β3 a1_0_b1.length (a1_0_b1.flatMap encR93)]⟩),(2,⟨3,false,[.sc (.int .i64 a1_1_b0)]⟩)]⟩) (VC.sub (.c rfl<| .c rfl<| .n _) (.c rfl<| .c rfl<| .n _)) ?_
  refine AWP.seq ?_
  refine AWP.seq ?_
  refine AWP.region (.cons (.move (lt1 rfl) (.tmp rfl))<| .cons (.lenRd (lt1 rfl) (.tmp rfl) Try.underlying28)<| .cons (.lss (lt1 rfl) (.tmp rfl) (.const _ _ _))<| ARun.nil _ _ _) ?_
  refine AWP.vc (s' := ⟨[(0,.rd β1 a0.length (a0.flatMap (encI .i64))),(1,.clo (.func 94) [] [.ptr 1 0,.ptr 2 0]),(9,.sc (.bool (decide ((a0.length : Int) < (1 : Int)))))],[(1,⟨32,false,[.rd β2 a1_0_b0.length (a1_0_b0.flatMap encR45),.rd β3 a1_0_b1.length (a1_0_b1.flatMap encR93)]⟩),(2,⟨3,false,[.sc (.int .i64 a1_1_b0)]⟩)]⟩) (VC.sub (.c rfl<| .c rfl<| .c rfl<| .n _) (.c rfl<| .c rfl<| .n _)) ?_
  refine AWP.cond (.tmp rfl) (fun hc => ?_) (fun hc => ?_)
  · have h := iteT hc h
    cases h
  · have h := iteF hc h
    refine AWP.skip ?_
    refine AWP.seq ?_
    obtain ⟨y_1,hy_1,h⟩ := bindS h
    refine AWP.region (.cons (.move (lt1 rfl) (.tmp rfl))<| .cons (.indexRd (enc := (encI .i64)) (lt1 rfl) (.tmp rfl) (.const _ _ _) Try.underlying28 sz3 (encI_len .i64) rfl hy_1)<| .cons (.loadR (v := .sc (.int .i64 y_1)) (lt1 rfl) (.tmp rfl) one3 rfl)<| .cons (.assign (lt1 rfl) (.tmp rfl))<| ARun.nil _ _ _) ?_
    refine AWP.vc (s' := ⟨[(0,.rd β1 a0.length (a0.flatMap (encI .i64))),(1,.clo (.func 94) [] [.ptr 1 0,.ptr 2 0]),(5,.sc (.int .i64 y_1))],[(1,⟨32,false,[.rd β2 a1_0_b0.length (a1_0_b0.flatMap encR45),.rd β3 a1_0_b1.length (a1_0_b1.flatMap encR93)]⟩),(2,⟨3,false,[.sc (.int .i64 a1_1_b0)]⟩)]⟩) (VC.sub (.c rfl<| .c rfl<| .c rfl<| .n _) (.c rfl<| .c rfl<| .n _)) ?_
    refine AWP.seq ?_
    refine AWP.seq ?_
    refine AWP.region (.cons (.assign (lt1 rfl) (.const _ _ _))<| ARun.nil _ _ _) ?_
    refine AWP.vc (s' := ⟨[(0,.rd β1 a0.length (a0.flatMap (encI .i64))),(1,.clo (.func 94) [] [.ptr 1 0,.ptr 2 0]),(5,.sc (.int .i64 y_1)),(6,.sc (.int .i64 (1 : Int)))],[(1,⟨32,false,[.rd β2 a1_0_b0.length (a1_0_b0.flatMap encR45),.rd β3 a1_0_b1.length (a1_0_b1.flatMap encR93)]⟩),(2,⟨3,false,[.sc (.int .i64 a1_1_b0)]⟩)]⟩) (VC.sub (.c rfl<| .c rfl<| .c rfl<| .c rfl<| .n _) (.c rfl<| .c rfl<| .n _)) ?_
    refine AWP.joinB' (S := fun p_24 : Int => ⟨[(5,.sc (.int .i64 p_24))],[(1,⟨32,false,[.rd β2 a1_0_b0.length (a1_0_b0.flatMap encR45),.rd β3 a1_0_b1.length (a1_0_b1.flatMap encR93)]⟩),(2,⟨3,false,[.sc (.int .i64 a1_1_b0)]⟩)]⟩) h (fun p_24 h => ?_) (fun k_25 h => ?_)
    · refine AWP.seq ?_
      refine AWP.region (.cons (.move (lt1 rfl) (.tmp rfl))<| .cons (.assign (lt1 rfl) (.tmp rfl))<| ARun.nil _ _ _) ?_
      refine AWP.ret ?_
      obtain rfl := Option.some.inj h
      refine retJ (Res.vc (s' := ⟨[(4,.sc (.int .i64 p_24))],[(1,⟨32,false,[.rd β2 a1_0_b0.length (a1_0_b0.flatMap encR45),.rd β3 a1_0_b1.length (a1_0_b1.flatMap encR93)]⟩),(2,⟨3,false,[.sc (.int .i64 a1_1_b0)]⟩)]⟩) (VC.sub (.c rfl<| .n _) (.c rfl<| .c rfl<| .n _)) ?_)
      refine Res.sub (H := [(1,⟨32,false,[.rd β2 a1_0_b0.length (a1_0_b0.flatMap encR45),.rd β3 a1_0_b1.length (a1_0_b1.flatMap encR93)]⟩),(2,⟨3,false,[.sc (.int .i64 a1_1_b0)]⟩)]) (.c rfl<| .c rfl<| .n _) ?_
      exact Res.of rfl (.cons (.tmp rfl) (.nil)) rfl rfl
    · refine AWP.vc (s' := ⟨[(0,.rd β1 a0.length (a0.flatMap (encI .i64))),(1,.clo (.func 94) [] [.ptr 1 0,.ptr 2 0]),(5,.sc (.int .i64 y_1)),(6,.sc (.int .i64 (1 : Int)))],[(1,⟨32,false,[.rd β2 a1_0_b0.length (a1_0_b0.flatMap encR45),.rd β3 a1_0_b1.length (a1_0_b1.flatMap encR93)]⟩),(2,⟨3,false,[.sc (.int .i64 a1_1_b0)]⟩)]⟩) (VC.sub (.c rfl<| .c rfl<| .c rfl<| .c rfl<| .n _) (.c rfl<| .c rfl<| .n _)) ?_
      refine AWP.loopM (S := fun x_16 : Int × Int => ⟨[(0,.rd β1 a0.length (a0.flatMap (encI .i64))),(1,.clo (.func 94) [] [.ptr 1 0,.ptr 2 0]),(5,.sc (.int .i64 x_16.1)),(6,.sc (.int .i64 x_16.2))],[(1,⟨32,false,[.rd β2 a1_0_b0.length (a1_0_b0.flatMap encR45),.rd β3 a1_0_b1.length (a1_0_b1.flatMap encR93)]⟩),(2,⟨3,false,[.sc (.int .i64 a1_1_b0)]⟩)]⟩) (x := (y_1,(1 : Int))) (fun nx_17 x_16 h => ?_) h
      unfold m93_L1 at h
      refine AWP.seq ?_
      refine AWP.seq ?_
      refine AWP.region (.cons (.move (lt1 rfl) (.tmp rfl))<| .cons (.move (lt1 rfl) (.tmp rfl))<| .cons (.lenRd (lt1 rfl) (.tmp rfl) Try.underlying28)<| .cons (.lss (lt1 rfl) (.tmp rfl) (.tmp rfl))<| ARun.nil _ _ _) ?_
      refine AWP.vc (s' := ⟨[(0,.rd β1 a0.length (a0.flatMap (encI .i64))),(1,.clo (.func 94) [] [.ptr 1 0,.ptr 2 0]),(5,.sc (.int .i64 x_16.1)),(6,.sc (.int .i64 x_16.2)),(17,.sc (.bool (decide (x_16.2 < (a0.length : Int)))))],[(1,⟨32,false,[.rd β2 a1_0_b0.length (a1_0_b0.flatMap encR45),.rd β3 a1_0_b1.length (a1_0_b1.flatMap encR93)]⟩),(2,⟨3,false,[.sc (.int .i64 a1_1_b0)]⟩)]⟩) (VC.sub (.c rfl<| .c rfl<| .c rfl<| .c rfl<| .c rfl<| .n _) (.c rfl<| .c rfl<| .n _)) ?_
      refine AWP.cond (.tmp rfl) (fun hc => ?_) (fun hc => ?_)
      · have h := iteT hc h
        refine AWP.skip ?_
        refine AWP.seq ?_
        refine AWP.block ?_
        refine AWP.seq ?_
        obtain ⟨y_18,hy_18,h⟩ := bindS h
        obtain ⟨y_19,hy_19,h⟩ := bindS h
        refine AWP.region (.cons (.move (lt1 rfl) (.tmp rfl))<| .cons (.move (lt1 rfl) (.tmp rfl))<| .cons (.move (lt1 rfl) (.tmp rfl))<| .cons (.indexRd (enc := (encI .i64)) (lt1 rfl) (.tmp rfl) (.tmp rfl) Try.underlying28 sz3 (encI_len .i64) rfl hy_18)<| .cons (.loadR (v := .sc (.int .i64 y_18)) (lt1 rfl) (.tmp rfl) one3 rfl)<| .cons (.move (lt1 rfl) (.tmp rfl))<| .cons (.keep (bw := false) (AStep.callV (us' := []) (avs := [.sc (.int .i64 y_18),.sc (.int .i64 x_16.1)]) (cs' := [.ptr 1 0,.ptr 2 0]) (σ := sgT [(1,1),(2,2)]) (bw := false) (lt1 rfl) (.tmp rfl) (c94 (β1 := β2) (β2 := β3) n y_18 x_16.1 a1_0_b0 a1_0_b1 a1_1_b0 hy_19) (.nil) (.cons (.tmp rfl) (.ren rfl) (.cons (.tmp rfl) (.ren rfl) (.nil))) (.cons (.ren rfl) (.cons (.ren rfl) (.nil))) (CallOk.mk' (.c rfl (.c rfl (.n))) rfl) (fun _ h => by cases h)) (CallOk.mk' (.c rfl (.c rfl (.n))) rfl) rfl rfl)<| .cons (.lss (lt1 rfl) (.tmp rfl) (.const _ _ _))<| ARun.nil _ _ _) ?_
        refine AWP.vc (s' := ⟨[(0,.rd β1 a0.length (a0.flatMap (encI .i64))),(1,.clo (.func 94) [] [.ptr 1 0,.ptr 2 0]),(5,.sc (.int .i64 x_16.1)),(6,.sc (.int .i64 x_16.2)),(27,.sc (.bool (decide (y_19 < (0 : Int)))))],[(1,⟨32,false,[.rd β2 a1_0_b0.length (a1_0_b0.flatMap encR45),.rd β3 a1_0_b1.length (a1_0_b1.flatMap encR93)]⟩),(2,⟨3,false,[.sc (.int .i64 a1_1_b0)]⟩)]⟩) (VC.sub (.c rfl<| .c rfl<| .c rfl<| .c rfl<| .c rfl<| .n _) (.c rfl<| .c rfl<| .n _)) ?_
        refine AWP.join' (S := fun p_21 : Int => ⟨[(0,.rd β1 a0.length (a0.flatMap (encI .i64))),(1,.clo (.func 94) [] [.ptr 1 0,.ptr 2 0]),(5,.sc (.int .i64 p_21)),(6,.sc (.int .i64 x_16.2))],[(1,⟨32,false,[.rd β2 a1_0_b0.length (a1_0_b0.flatMap encR45),.rd β3 a1_0_b1.length (a1_0_b1.flatMap encR93)]⟩),(2,⟨3,false,[.sc (.int .i64 a1_1_b0)]⟩)]⟩) h (fun p_21 h => ?_) (fun k_22 h => ?_)
        · obtain ⟨t6_23,ht6_23,h⟩ := letS h
          refine AWP.region (.cons (.move (lt1 rfl) (.tmp rfl))<| .cons (.add (lt1 rfl) (.tmp rfl) (.const _ _ _))<| .cons (.assign (lt1 rfl) (.tmp rfl))<| ARun.nil _ _ _) ?_
          exact endJ (p_21,t6_23) h (by subst ht6_23; exact VC.sub (.c rfl<| .c rfl<| .c rfl<| .c rfl<| .n _) (.c rfl<| .c rfl<| .n _))
        · refine AWP.cond (.tmp rfl) (fun hc => ?_) (fun hc => ?_)
          · have h := iteT hc h
            obtain ⟨y_20,hy_20,h⟩ := bindS h
            refine AWP.region (.cons (.move (lt1 rfl) (.tmp rfl))<| .cons (.move (lt1 rfl) (.tmp rfl))<| .cons (.indexRd (enc := (encI .i64)) (lt1 rfl) (.tmp rfl) (.tmp rfl) Try.underlying28 sz3 (encI_len .i64) rfl hy_20)<| .cons (.loadR (v := .sc (.int .i64 y_20)) (lt1 rfl) (.tmp rfl) one3 rfl)<| .cons (.assign (lt1 rfl) (.tmp rfl))<| ARun.nil _ _ _) ?_
            exact endJ y_20 h (VC.sub (.c rfl<| .c rfl<| .c rfl<| .c rfl<| .n _) (.c rfl<| .c rfl<| .n _))
          · have h := iteF hc h
            refine AWP.skip ?_
            exact endJ x_16.1 h (VC.sub (.c rfl<| .c rfl<| .c rfl<| .c rfl<| .n _) (.c rfl<| .c rfl<| .n _))
      · have h := iteF hc h
        refine AWP.exit ?_
        exact endJ x_16.1 h (VC.sub (.c rfl<| .n _) (.c rfl<| .c rfl<| .n _))
theorem c92 {β1 : Bool} {β2 : Bool} {β3 : Bool} (n : Nat) (a0 : (List Int)) (a1_b0 : (List R45)) (a1_b1 : (List R93)) (a2_b0 : Int) {r : (Int × Int)} (h : m92 n a0 a1_b0 a1_b1 a2_b0 = some r) : Spec Try.prog 92 [1,2] [.rd β1 a0.length (a0.flatMap (encI .i64)),.ptr 1 0,.ptr 2 0] [(1,⟨32,false,[.rd β2 a1_b0.length (a1_b0.flatMap encR45),.rd β3 a1_b1.length (a1_b1.flatMap encR93)]⟩),(2,⟨3,false,[.sc (.int .i64 a2_b0)]⟩)] (.sc (.int .i64 r.1)) [(1,⟨32,false,[.rd β2 a1_b0.length (a1_b0.flatMap encR45),.rd β3 a1_b1.length (a1_b1.flatMap encR93)]⟩),(2,⟨3,false,[.sc (.int .i64 r.2)]⟩)] := by
  refine Spec.of (fn := Try.f92) Try.func92 Try.ntmps92 rfl rfl (le1 rfl) (fun w0 Zs Zb T0 ι0 => ?_)
  unfold m92 at h
  refine AWP.seq ?_
  refine AWP.region (.cons (.assign (lt1 rfl) (.const _ _ _))<| ARun.nil _ _ _) ?_
  refine AWP.vc (s' := ⟨[(0,.rd β1 a0.length (a0.flatMap (encI .i64))),(1,.ptr 1 0),(2,.ptr 2 0)],[(1,⟨32,false,[.rd β2 a1_b0.length (a1_b0.flatMap encR45),.rd β3 a1_b1.length (a1_b1.flatMap encR93)]⟩),(2,⟨3,false,[.sc (.int .i64 a2_b0)]⟩)]⟩) (VC.sub (.c rfl<| .c rfl<| .c rfl<| .n _) (.c rfl<| .c rfl<| .n _)) ?_
  refine AWP.seq ?_
  obtain ⟨y_1,hy_1,h⟩ := bindS h
  refine AWP.region (.cons (.move (lt1 rfl) (.tmp rfl))<| .cons (.makeFunc (lt1 rfl) (.nil) (.cons (.tmp rfl) (.cons (.tmp rfl) (.nil))))<| .cons (.keep (bw := false) (AStep.call (σ := sgT [(1,1),(2,2)]) (bw := false) (lt1 rfl) (c93 (β1 := β1) (β2 := β2) (β3 := β3) n a0 a1_b0 a1_b1 a2_b0 hy_1) (.cons (.tmp rfl) (.ren rfl) (.cons (.tmp rfl) (.ren rfl) (.nil))) (CallOk.mk' (.c rfl (.c rfl (.n))) rfl)) (CallOk.mk' (.c rfl (.c rfl (.n))) rfl) rfl rfl)<| .cons (.storeP (.tmp rfl) (.tmp rfl) sz3 rfl (lt1 rfl) rfl (by intro h; cases h) rfl)<| ARun.nil _ _ _) ?_
  refine AWP.vc (s' := ⟨[(2,.ptr 2 0)],[(1,⟨32,false,[.rd β2 a1_b0.length (a1_b0.flatMap encR45),.rd β3 a1_b1.length (a1_b1.flatMap encR93)]⟩),(2,⟨3,false,[.sc (.int .i64 y_1)]⟩)]⟩) (VC.sub (.c rfl<| .n _) (.c rfl<| .c rfl<| .n _)) ?_
  refine AWP.seq ?_
  refine AWP.region (.cons (.loadP (lt1 rfl) (.tmp rfl) one3 rfl rfl rfl)<| .cons (.assign (lt1 rfl) (.tmp rfl))<| ARun.nil _ _ _) ?_
  refine AWP.ret ?_
  obtain rfl := Option.some.inj h
  refine retJ (Res.vc (s' := ⟨[(4,.sc (.int .i64 y_1))],[(1,⟨32,false,[.rd β2 a1_b0.length (a1_b0.flatMap encR45),.rd β3 a1_b1.length (a1_b1.flatMap encR93)]⟩),(2,⟨3,false,[.sc (.int .i64 y_1)]⟩)]⟩) (VC.sub (.c rfl<| .n _) (.c rfl<| .c rfl<| .n _)) ?_)
  refine Res.sub (H := [(1,⟨32,false,[.rd β2 a1_b0.length (a1_b0.flatMap encR45),.rd β3 a1_b1.length (a1_b1.flatMap encR93)]⟩),(2,⟨3,false,[.sc (.int .i64 y_1)]⟩)]) (.c rfl<| .c rfl<| .n _) ?_
  exact Res.of rfl (.cons (.tmp rfl) (.nil)) rfl rfl
theorem c58x1 {β1 : Bool} {β2 : Bool} {β3 : Bool} {β4 : Bool} (n : Nat) (a0 : R24) (a1_0_b0 : (List R45)) (a1_0_b1 : (List R93)) (a1_1_b0 : Int) {r : ((List Int) × Bool × Int)} (h : m58x1 n a0 a1_0_b0 a1_0_b1 a1_1_b0 = some r) : Spec Try.prog 58 [1,2] [.agg [.rd β1 a0.Points.length (a0.Points.flatMap encR45),.rd β2 a0.Before.length (a0.Before.flatMap encR93)],.clo (.func 92) [] [.ptr 1 0,.ptr 2 0]] [(1,⟨32,false,[.rd β3 a1_0_b0.length (a1_0_b0.flatMap encR45),.rd β4 a1_0_b1.length (a1_0_b1.flatMap encR93)]⟩),(2,⟨3,false,[.sc (.int .i64 a1_1_b0)]⟩)] (.tup [.rd false r.1.length (r.1.flatMap (encI .i64)),.sc (.bool r.2.1)]) [(1,⟨32,false,[.rd β3 a1_0_b0.length (a1_0_b0.flatMap encR45),.rd β4 a1_0_b1.length (a1_0_b1.flatMap encR93)]⟩),(2,⟨3,false,[.sc (.int .i64 r.2.2)]⟩)] := by
  refine Spec.of (fn := Try.f58) Try.func58 Try.ntmps58 rfl rfl (le1 rfl) (fun w0 Zs Zb T0 ι0 => ?_)
  unfold m58x1 at h
  refine AWP.seq ?_
  refine AWP.region (.cons (.box (t := 3) (n := 2) (lt1 rfl) (nm rfl) (.tmp rfl) (by first | exact ⟨rfl,rfl⟩ | rfl) rfl)<| .cons (.assign (lt1 rfl) (.const _ _ _))<| .cons (.assign (lt1 rfl) (.const _ _ _))<| ARun.nil _ _ _) ?_
  refine AWP.vc (s' := ⟨[(1,.clo (.func 92) [] [.ptr 1 0,.ptr 2 0]),(2,.ptr 3 0)],[(3,⟨32,false,[.rd β1 a0.Points.length (a0.Points.flatMap encR45),.rd β2 a0.Before.length (a0.Before.flatMap encR93)]⟩),(1,⟨32,false,[.rd β3 a1_0_b0.length (a1_0_b0.flatMap encR45),.rd β4 a1_0_b1.length (a1_0_b1.flatMap encR93)]⟩),(2,⟨3,false,[.sc (.int .i64 a1_1_b0)]⟩)]⟩) (VC.sub (.c rfl<| .c rfl<| .n _) (.c rfl<| .c rfl<| .c rfl<| .n _)) ?_
  refine AWP.seq ?_
  refine AWP.region (.cons (.buildSlice (t := 4) (out := ([(0 : Int)] : List Int).flatMap (encI .i64)) (lt1 rfl) (nm rfl) (.cons (.const _ _ _) (by first | exact ⟨rfl,rfl⟩ | rfl) (.nil)) Try.underlying28 zero3 el3 (by decide) (by decide) rfl (still_all (encI_still .i64) _))<| .cons (.assign (lt1 rfl) (.tmp rfl))<| ARun.nil _ _ _) ?_
  refine AWP.vc (s' := ⟨[(1,.clo (.func 92) [] [.ptr 1 0,.ptr 2 0]),(2,.ptr 3 0),(6,.own 4 1 0 ([(0 : Int)] : List Int).length)],[(4,⟨3,true,([(0 : Int)] : List Int).flatMap (encI .i64)⟩),(3,⟨32,false,[.rd β1 a0.Points.length (a0.Points.flatMap encR45),.rd β2 a0.Before.length (a0.Before.flatMap encR93)]⟩),(1,⟨32,false,[.rd β3 a1_0_b0.length (a1_0_b0.flatMap encR45),.rd β4 a1_0_b1.length (a1_0_b1.flatMap encR93)]⟩),(2,⟨3,false,[.sc (.int .i64 a1_1_b0)]⟩)]⟩) (VC.sub (.c rfl<| .c rfl<| .c rfl<| .n _) (.c rfl<| .c rfl<| .c rfl<| .c rfl<| .n _)) ?_
  refine AWP.seq ?_
  refine AWP.joinB' (S := fun p_14 : Int × (List Int) => ⟨[(6,.own 4 1 0 p_14.2.length)],[(1,⟨32,false,[.rd β3 a1_0_b0.length (a1_0_b0.flatMap encR45),.rd β4 a1_0_b1.length (a1_0_b1.flatMap encR93)]⟩),(2,⟨3,false,[.sc (.int .i64 p_14.1)]⟩),(4,⟨3,true,p_14.2.flatMap (encI .i64)⟩)]⟩) h (fun p_14 h => ?_) (fun k_15 h => ?_)
  · refine AWP.seq ?_
    refine AWP.region (.cons (.move (lt1 rfl) (.tmp rfl))<| .cons (.assign (lt1 rfl) (.tmp rfl))<| .cons (.assign (lt1 rfl) (.const _ _ _))<| ARun.nil _ _ _) ?_
    refine AWP.ret ?_
    obtain rfl := Option.some.inj h
    refine retJ (Res.vc (s' := ⟨[(4,.rd false p_14.2.length (p_14.2.flatMap (encI .i64))),(5,.sc (.bool true))],[(1,⟨32,false,[.rd β3 a1_0_b0.length (a1_0_b0.flatMap encR45),.rd β4 a1_0_b1.length (a1_0_b1.flatMap encR93)]⟩),(2,⟨3,false,[.sc (.int .i64 p_14.1)]⟩)]⟩) (VC.trans (VC.frz (d := 4) (t := 4) rfl rfl (encI_len .i64)) (VC.sub (.c rfl<| .c rfl<| .n _) (.c rfl<| .c rfl<| .n _))) ?_)
    refine Res.sub (H := [(1,⟨32,false,[.rd β3 a1_0_b0.length (a1_0_b0.flatMap encR45),.rd β4 a1_0_b1.length (a1_0_b1.flatMap encR93)]⟩),(2,⟨3,false,[.sc (.int .i64 p_14.1)]⟩)]) (.c rfl<| .c rfl<| .n _) ?_
    exact Res.of rfl (.cons (.tmp rfl) (.cons (.tmp rfl) (.nil))) rfl rfl
  · refine AWP.vc (s' := ⟨[(1,.clo (.func 92) [] [.ptr 1 0,.ptr 2 0]),(2,.ptr 3 0),(6,.own 4 1 0 ([(0 : Int)] : List Int).length)],[(1,⟨32,false,[.rd β3 a1_0_b0.length (a1_0_b0.flatMap encR45),.rd β4 a1_0_b1.length (a1_0_b1.flatMap encR93)]⟩),(2,⟨3,false,[.sc (.int .i64 a1_1_b0)]⟩),(3,⟨32,false,[.rd β1 a0.Points.length (a0.Points.flatMap encR45),.rd β2 a0.Before.length (a0.Before.flatMap encR93)]⟩),(4,⟨3,true,([(0 : Int)] : List Int).flatMap (encI .i64)⟩)]⟩) (VC.sub (.c rfl<| .c rfl<| .c rfl<| .n _) (.c rfl<| .c rfl<| .c rfl<| .c rfl<| .n _)) ?_
    refine AWP.loopM (S := fun x_9 : Int × (List Int) => ⟨[(1,.clo (.func 92) [] [.ptr 1 0,.ptr 2 0]),(2,.ptr 3 0),(6,.own 4 1 0 x_9.2.length)],[(1,⟨32,false,[.rd β3 a1_0_b0.length (a1_0_b0.flatMap encR45),.rd β4 a1_0_b1.length (a1_0_b1.flatMap encR93)]⟩),(2,⟨3,false,[.sc (.int .i64 x_9.1)]⟩),(3,⟨32,false,[.rd β1 a0.Points.length (a0.Points.flatMap encR45),.rd β2 a0.Before.length (a0.Before.flatMap encR93)]⟩),(4,⟨3,true,x_9.2.flatMap (encI .i64)⟩)]⟩) (x := (a1_1_b0,([(0 : Int)] : List Int))) (fun nx_10 x_9 h => ?_) h
    unfold m58x1_L1 at h
    refine AWP.seq ?_
    refine AWP.seq ?_
    refine AWP.region (.cons (.move (lt1 rfl) (.tmp rfl))<| .cons (.lenOwn (lt1 rfl) (.tmp rfl) Try.underlying28)<| .cons (.fieldP (lt1 rfl) (.tmp rfl) fld32_0)<| .cons (.loadP (lt1 rfl) (.tmp rfl) one22 rfl rfl rfl)<| .cons (.lenRd (lt1 rfl) (.tmp rfl) Try.underlying22)<| .cons (.lss (lt1 rfl) (.tmp rfl) (.tmp rfl))<| ARun.nil _ _ _) ?_
    refine AWP.vc (s' := ⟨[(1,.clo (.func 92) [] [.ptr 1 0,.ptr 2 0]),(2,.ptr 3 0),(6,.own 4 1 0 x_9.2.length),(14,.sc (.bool (decide ((x_9.2.length : Int) < (a0.Points.length : Int)))))],[(1,⟨32,false,[.rd β3 a1_0_b0.length (a1_0_b0.flatMap encR45),.rd β4 a1_0_b1.length (a1_0_b1.flatMap encR93)]⟩),(2,⟨3,false,[.sc (.int .i64 x_9.1)]⟩),(3,⟨32,false,[.rd β1 a0.Points.length (a0.Points.flatMap encR45),.rd β2 a0.Before.length (a0.Before.flatMap encR93)]⟩),(4,⟨3,true,x_9.2.flatMap (encI .i64)⟩)]⟩) (VC.sub (.c rfl<| .c rfl<| .c rfl<| .c rfl<| .n _) (.c rfl<| .c rfl<| .c rfl<| .c rfl<| .n _)) ?_
    refine AWP.cond (.tmp rfl) (fun hc => ?_) (fun hc => ?_)
    · have h := iteT hc h
      refine AWP.skip ?_
      refine AWP.block ?_
      refine AWP.seq ?_
      obtain ⟨y_11,hy_11,h⟩ := bindS h
      refine AWP.region (.cons (.loadPA (lt1 rfl) (.tmp rfl) agg32 rfl rfl rfl rfl)<| .cons (.move (lt1 rfl) (.tmp rfl))<| .cons (.call0 (bw := true) (lt1 rfl) (c62 (β1 := β1) (β2 := β2) (β3 := true) n (R24.mk a0.Points a0.Before) x_9.2 hy_11) (.cons (.tmp rfl) (.ren rfl) (.cons (.tmp rfl) (.lendRow rfl rfl (encI_len .i64) rfl) (.nil))) rfl)<| .cons (.assign (lt1 rfl) (.tmp rfl))<| ARun.nil _ _ _) ?_
      refine AWP.vc (s' := ⟨[(1,.clo (.func 92) [] [.ptr 1 0,.ptr 2 0]),(2,.ptr 3 0),(6,.own 4 1 0 x_9.2.length),(7,.rd false y_11.length (y_11.flatMap (encI .i64)))],[(1,⟨32,false,[.rd β3 a1_0_b0.length (a1_0_b0.flatMap encR45),.rd β4 a1_0_b1.length (a1_0_b1.flatMap encR93)]⟩),(2,⟨3,false,[.sc (.int .i64 x_9.1)]⟩),(3,⟨32,false,[.rd β1 a0.Points.length (a0.Points.flatMap encR45),.rd β2 a0.Before.length (a0.Before.flatMap encR93)]⟩),(4,⟨3,true,x_9.2.flatMap (encI .i64)⟩)]⟩) (VC.sub (.c rfl<| .c rfl<| .c rfl<| .c rfl<| .n _) (.c rfl<| .c rfl<| .c rfl<| .c rfl<| .n _)) ?_
      refine AWP.seq ?_
      refine AWP.seq ?_
      refine AWP.region (.cons (.move (lt1 rfl) (.tmp rfl))<| .cons (.lenRd (lt1 rfl) (.tmp rfl) Try.underlying28)<| .cons (.eql (lt1 rfl) (.tmp rfl) (.const _ _ _))<| ARun.nil _ _ _) ?_
      refine AWP.vc (s' := ⟨[(1,.clo (.func 92) [] [.ptr 1 0,.ptr 2 0]),(2,.ptr 3 0),(6,.own 4 1 0 x_9.2.length),(7,.rd false y_11.length (y_11.flatMap (encI .i64))),(20,.sc (.bool (decide ((y_11.length : Int) = (0 : Int)))))],[(1,⟨32,false,[.rd β3 a1_0_b0.length (a1_0_b0.flatMap encR45),.rd β4 a1_0_b1.length (a1_0_b1.flatMap encR93)]⟩),(2,⟨3,false,[.sc (.int .i64 x_9.1)]⟩),(3,⟨32,false,[.rd β1 a0.Points.length (a0.Points.flatMap encR45),.rd β2 a0.Before.length (a0.Before.flatMap encR93)]⟩),(4,⟨3,true,x_9.2.flatMap (encI .i64)⟩)]⟩) (VC.sub (.c rfl<| .c rfl<| .c rfl<| .c rfl<| .c rfl<| .n _) (.c rfl<| .c rfl<| .c rfl<| .c rfl<| .n _)) ?_
      refine AWP.cond (.tmp rfl) (fun hc => ?_) (fun hc => ?_)
      · have h := iteT hc h
        refine AWP.seq ?_
        refine AWP.region (.cons (.assign (lt1 rfl) (.const _ _ _))<| .cons (.assign (lt1 rfl) (.const _ _ _))<| ARun.nil _ _ _) ?_
        refine AWP.ret ?_
        obtain rfl := Option.some.inj h
        refine retJ (Res.vc (s' := ⟨[(4,.rd false ([] : List Int).length (([] : List Int).flatMap (encI .i64))),(5,.sc (.bool false))],[(1,⟨32,false,[.rd β3 a1_0_b0.length (a1_0_b0.flatMap encR45),.rd β4 a1_0_b1.length (a1_0_b1.flatMap encR93)]⟩),(2,⟨3,false,[.sc (.int .i64 x_9.1)]⟩)]⟩) (VC.trans (VC.nilRd (d := 4) false rfl) (VC.sub (.c rfl<| .c rfl<| .n _) (.c rfl<| .c rfl<| .n _))) ?_)
        refine Res.sub (H := [(1,⟨32,false,[.rd β3 a1_0_b0.length (a1_0_b0.flatMap encR45),.rd β4 a1_0_b1.length (a1_0_b1.flatMap encR93)]⟩),(2,⟨3,false,[.sc (.int .i64 x_9.1)]⟩)]) (.c rfl<| .c rfl<| .n _) ?_
        exact Res.of rfl (.cons (.tmp rfl) (.cons (.tmp rfl) (.nil))) rfl rfl
      · have h := iteF hc h
        refine AWP.skip ?_
        obtain ⟨y_12,hy_12,h⟩ := bindS h
        obtain ⟨l4_13,hl4_13,h⟩ := bindS h
        refine AWP.region (.cons (.move (lt1 rfl) (.tmp rfl))<| .cons (.move (lt1 rfl) (.tmp rfl))<| .cons (.move (lt1 rfl) (.tmp rfl))<| .cons (.callV (us' := []) (avs := [.rd false y_11.length (y_11.flatMap (encI .i64))]) (cs' := [.ptr 1 0,.ptr 2 0]) (σ := sgT [(1,1),(2,2)]) (bw := false) (lt1 rfl) (.tmp rfl) (c92 (β1 := false) (β2 := β3) (β3 := β4) n y_11 a1_0_b0 a1_0_b1 x_9.1 hy_12) (.nil) (.cons (.tmp rfl) (.ren rfl) (.nil)) (.cons (.ren rfl) (.cons (.ren rfl) (.nil))) (CallOk.mk' (.c rfl (.c rfl (.n))) rfl) (fun _ h => by cases h))<| .cons (.buildSlice (t := 5) (out := ([y_12.1] : List Int).flatMap (encI .i64)) (lt1 rfl) (nm rfl) (.cons (.tmp rfl) (by first | exact ⟨rfl,rfl⟩ | rfl) (.nil)) Try.underlying28 zero3 el3 (by decide) (by decide) rfl (still_all (encI_still .i64) _))<| .cons (.app (enc := (encI .i64)) (lt1 rfl) (nm rfl) (.tmp rfl) (Src.own (.tmp rfl) rfl (lendAll (encI_len .i64) _) (flatMap_length (encI_len .i64) _) (one_all (encI_one .i64) _) (.inl rfl)) Try.underlying28 ⟨_,Try.underlying28,by intro k hk; cases hk⟩ el3 rfl (encI_len .i64) rfl rfl (by decide) hl4_13)<| .cons (.assign (lt1 rfl) (.tmp rfl))<| ARun.nil _ _ _) ?_
        exact endJ (y_12.2,l4_13) h (VC.sub (.c rfl<| .c rfl<| .c rfl<| .n _) (.c rfl<| .c rfl<| .c rfl<| .c rfl<| .n _))
    · have h := iteF hc h
      refine AWP.exit ?_
      exact endJ (x_9.1,x_9.2) h (VC.sub (.c rfl<| .n _) (.c rfl<| .c rfl<| .c rfl<| .n _))
theorem c69 {β1 : Bool} {β2 : Bool} (n : Nat) (a0 : R24) {r : (List Int)} (h : m69 n a0 = some r) : Spec Try.prog 69 [] [.agg [.rd β1 a0.Points.length (a0.Points.flatMap encR45),.rd β2 a0.Before.length (a0.Before.flatMap encR93)]] [] (.rd false r.length (r.flatMap (encI .i64))) [] := by
  refine Spec.of (fn := Try.f69) Try.func69 Try.ntmps69 rfl rfl (le1 rfl) (fun w0 Zs Zb T0 ι0 => ?_)
  unfold m69 at h
  refine AWP.seq ?_
  refine AWP.region (.cons (.box (t := 1) (n := 2) (lt1 rfl) (nm rfl) (.tmp rfl) (by first | exact ⟨rfl,rfl⟩ | rfl) rfl)<| .cons (.assign (lt1 rfl) (.const _ _ _))<| ARun.nil _ _ _) ?_
  refine AWP.vc (s' := ⟨[(1,.ptr 1 0)],[(1,⟨32,false,[.rd β1 a0.Points.length (a0.Points.flatMap encR45),.rd β2 a0.Before.length (a0.Before.flatMap encR93)]⟩)]⟩) (VC.sub (.c rfl<| .n _) (.c rfl<| .n _)) ?_
  refine AWP.seq ?_
  refine AWP.region (.cons (.alloc (t := 2) (k := ⟨3,false,[.sc (.int .i64 (0 : Int))]⟩) (lt1 rfl) (nm rfl) zero3 rfl rfl)<| .cons (.storeP (.tmp rfl) (.const _ _ _) sz3 rfl (lt1 rfl) rfl (by intro h; cases h) rfl)<| ARun.nil _ _ _) ?_
  refine AWP.vc (s' := ⟨[(1,.ptr 1 0),(3,.ptr 2 0)],[(2,⟨3,false,[.sc (.int .i64 (0 : Int))]⟩),(1,⟨32,false,[.rd β1 a0.Points.length (a0.Points.flatMap encR45),.rd β2 a0.Before.length (a0.Before.flatMap encR93)]⟩)]⟩) (VC.sub (.c rfl<| .c rfl<| .n _) (.c rfl<| .c rfl<| .n _)) ?_
  refine AWP.seq ?_
  obtain ⟨y_1,hy_1,h⟩ := bindS h
  refine AWP.region (.cons (.loadPA (lt1 rfl) (.tmp rfl) agg32 rfl rfl rfl rfl)<| .cons (.makeFunc (lt1 rfl) (.nil) (.cons (.tmp rfl) (.cons (.tmp rfl) (.nil))))<| .cons (.call (σ := sgT [(1,1),(2,2)]) (bw := false) (lt1 rfl) (c58x1 (β1 := β1) (β2 := β2) (β3 := β1) (β4 := β2) n (R24.mk a0.Points a0.Before) a0.Points a0.Before (0 : Int) hy_1) (.cons (.tmp rfl) (.ren rfl) (.cons (.tmp rfl) (.ren rfl) (.nil))) (CallOk.mk' (.c rfl (.c rfl (.n))) rfl))<| .cons (.move (lt1 rfl) (.tmp rfl))<| .cons (.extract (lt1 rfl) (.tmp rfl) rfl)<| .cons (.extract (lt1 rfl) (.tmp rfl) rfl)<| .cons (.assign (lt1 rfl) (.tmp rfl))<| .cons (.assign (lt1 rfl) (.tmp rfl))<| ARun.nil _ _ _) ?_
  refine AWP.vc (s' := ⟨[(4,.rd false y_1.1.length (y_1.1.flatMap (encI .i64)))],[]⟩) (VC.sub (.c rfl<| .n _) (.n _)) ?_
  refine AWP.seq ?_
  refine AWP.region (.cons (.move (lt1 rfl) (.tmp rfl))<| .cons (.assign (lt1 rfl) (.tmp rfl))<| ARun.nil _ _ _) ?_
  refine AWP.ret ?_
  obtain rfl := Option.some.inj h
  refine retJ (Res.vc (s' := ⟨[(2,.rd false y_1.1.length (y_1.1.flatMap (encI .i64)))],[]⟩) (VC.sub (.c rfl<| .n _) (.n _)) ?_)
  refine Res.drop (H := []) rfl ?_
  exact Res.of rfl (.cons (.tmp rfl) (.nil)) rfl rfl
theorem c31 {β1 : Bool} {β2 : Bool} (n : Nat) (a0 : R24) {r : ((List Int) × Int)} (h : m31 n a0 = some r) : Spec Try.prog 31 [] [.agg [.rd β1 a0.Points.length (a0.Points.flatMap encR45),.rd β2 a0.Before.length (a0.Before.flatMap encR93)]] [] (.tup [.rd false r.1.length (r.1.flatMap (encI .i64)),.sc (.int .i64 r.2)]) [] := by
  refine Spec.of (fn := Try.f31) Try.func31 Try.ntmps31 rfl rfl (le1 rfl) (fun w0 Zs Zb T0 ι0 => ?_)
  unfold m31 at h
  refine AWP.seq ?_
  refine AWP.region (.cons (.box (t := 1) (n := 2) (lt1 rfl) (nm rfl) (.tmp rfl) (by first | exact ⟨rfl,rfl⟩ | rfl) rfl)<| .cons (.assign (lt1 rfl) (.const _ _ _))<| .cons (.assign (lt1 rfl) (.const _ _ _))<| ARun.nil _ _ _) ?_
  refine AWP.vc (s' := ⟨[(1,.ptr 1 0)],[(1,⟨32,false,[.rd β1 a0.Points.length (a0.Points.flatMap encR45),.rd β2 a0.Before.length (a0.Before.flatMap encR93)]⟩)]⟩) (VC.sub (.c rfl<| .n _) (.c rfl<| .n _)) ?_
  refine AWP.seq ?_
  refine AWP.seq ?_
  obtain ⟨y_1,hy_1,h⟩ := bindS h
  refine AWP.region (.cons (.loadPA (lt1 rfl) (.tmp rfl) agg32 rfl rfl rfl rfl)<| .cons (.call0 (bw := false) (lt1 rfl) (c22 (β1 := β1) (β2 := β2) n (R24.mk a0.Points a0.Before) hy_1) (.cons (.tmp rfl) (.ren rfl) (.nil)) rfl)<| .cons (.not (lt1 rfl) (.tmp rfl))<| ARun.nil _ _ _) ?_
  refine AWP.vc (s' := ⟨[(1,.ptr 1 0),(6,.sc (.bool (!y_1)))],[(1,⟨32,false,[.rd β1 a0.Points.length (a0.Points.flatMap encR45),.rd β2 a0.Before.length (a0.Before.flatMap encR93)]⟩)]⟩) (VC.sub (.c rfl<| .c rfl<| .n _) (.c rfl<| .n _)) ?_
  refine AWP.cond (.tmp rfl) (fun hc => ?_) (fun hc => ?_)
  · have h := iteT hc h
    refine AWP.seq ?_
    refine AWP.region (.cons (.assign (lt1 rfl) (.const _ _ _))<| .cons (.assign (lt1 rfl) (.const _ _ _))<| ARun.nil _ _ _) ?_
    refine AWP.ret ?_
    obtain rfl := Option.some.inj h
    refine retJ (Res.vc (s' := ⟨[(2,.rd false ([] : List Int).length (([] : List Int).flatMap (encI .i64))),(3,.sc (.int .i64 (1 : Int)))],[]⟩) (VC.trans (VC.nilRd (d := 2) false rfl) (VC.sub (.c rfl<| .c rfl<| .n _) (.n _))) ?_)
    refine Res.drop (H := []) rfl ?_
    exact Res.of rfl (.cons (.tmp rfl) (.cons (.tmp rfl) (.nil))) rfl rfl
  · have h := iteF hc h
    refine AWP.skip ?_
    refine AWP.seq ?_
    obtain ⟨y_2,hy_2,h⟩ := bindS h
    refine AWP.region (.cons (.loadPA (lt1 rfl) (.tmp rfl) agg32 rfl rfl rfl rfl)<| .cons (.call0 (bw := false) (lt1 rfl) (c69 (β1 := β1) (β2 := β2) n (R24.mk a0.Points a0.Before) hy_2) (.cons (.tmp rfl) (.ren rfl) (.nil)) rfl)<| .cons (.assign (lt1 rfl) (.tmp rfl))<| .cons (.assign (lt1 rfl) (.const _ _ _))<| ARun.nil _ _ _) ?_
    refine AWP.ret ?_
    obtain rfl := Option.some.inj h
    refine retJ (Res.vc (s' := ⟨[(2,.rd false y_2.length (y_2.flatMap (encI .i64))),(3,.sc (.int .i64 (0 : Int)))],[]⟩) (VC.sub (.c rfl<| .c rfl<| .n _) (.n _)) ?_)
    refine Res.drop (H := []) rfl ?_
    exact Res.of rfl (.cons (.tmp rfl) (.cons (.tmp rfl) (.nil))) rfl rfl
theorem c32 {β1 : Bool} {β2 : Bool} (n : Nat) (a0 : R24) {r : ((List Int) × Int)} (h : m32 n a0 = some r) : Spec Try.prog 32 [] [.agg [.rd β1 a0.Points.length (a0.Points.flatMap encR45),.rd β2 a0.Before.length (a0.Before.flatMap encR93)]] [] (.tup [.rd false r.1.length (r.1.flatMap (encI .i64)),.sc (.int .i64 r.2)]) [] := by
  refine Spec.of (fn := Try.f32) Try.func32 Try.ntmps32 rfl rfl (le1 rfl) (fun w0 Zs Zb T0 ι0 => ?_)
  unfold m32 at h
  refine AWP.seq ?_
  refine AWP.region (.cons (.box (t := 1) (n := 2) (lt1 rfl) (nm rfl) (.tmp rfl) (by first | exact ⟨rfl,rfl⟩ | rfl) rfl)<| .cons (.assign (lt1 rfl) (.const _ _ _))<| .cons (.assign (lt1 rfl) (.const _ _ _))<| ARun.nil _ _ _) ?_
  refine AWP.vc (s' := ⟨[(1,.ptr 1 0)],[(1,⟨25,false,[.rd β1 a0.Points.length (a0.Points.flatMap encR45),.rd β2 a0.Before.length (a0.Before.flatMap encR93)]⟩)]⟩) (VC.sub (.c rfl<| .n _) (.c rfl<| .n _)) ?_
  refine AWP.seq ?_
  refine AWP.seq ?_
  obtain ⟨y_1,hy_1,h⟩ := bindS h
  refine AWP.region (.cons (.loadPA (lt1 rfl) (.tmp rfl) agg25 rfl rfl rfl rfl)<| .cons (.call0 (bw := false) (lt1 rfl) (c15 (β1 := β1) (β2 := β2) n (R24.mk a0.Points a0.Before) hy_1) (.cons (.tmp rfl) (.ren rfl) (.nil)) rfl)<| .cons (.not (lt1 rfl) (.tmp rfl))<| ARun.nil _ _ _) ?_
  refine AWP.vc (s' := ⟨[(1,.ptr 1 0),(11,.sc (.bool (!y_1)))],[(1,⟨25,false,[.rd β1 a0.Points.length (a0.Points.flatMap encR45),.rd β2 a0.Before.length (a0.Before.flatMap encR93)]⟩)]⟩) (VC.sub (.c rfl<| .c rfl<| .n _) (.c rfl<| .n _)) ?_
  refine AWP.cond (.tmp rfl) (fun hc => ?_) (fun hc => ?_)
  · have h := iteT hc h
    refine AWP.seq ?_
    refine AWP.region (.cons (.assign (lt1 rfl) (.const _ _ _))<| .cons (.assign (lt1 rfl) (.const _ _ _))<| ARun.nil _ _ _) ?_
    refine AWP.ret ?_
    obtain rfl := Option.some.inj h
    refine retJ (Res.vc (s' := ⟨[(2,.rd false ([] : List Int).length (([] : List Int).flatMap (encI .i64))),(3,.sc (.int .i64 (1 : Int)))],[]⟩) (VC.trans (VC.nilRd (d := 2) false rfl) (VC.sub (.c rfl<| .c rfl<| .n _) (.n _))) ?_)
    refine Res.drop (H := []) rfl ?_
    exact Res.of rfl (.cons (.tmp rfl) (.cons (.tmp rfl) (.nil))) rfl rfl
  · have h := iteF hc h
    refine AWP.skip ?_
    refine AWP.seq ?_
    refine AWP.region (.cons (.buildSlice (t := 2) (out := ([(0 : Int)] : List Int).flatMap (encI .i64)) (lt1 rfl) (nm rfl) (.cons (.const _ _ _) (by first | exact ⟨rfl,rfl⟩ | rfl) (.nil)) Try.underlying28 zero3 el3 (by decide) (by decide) rfl (still_all (encI_still .i64) _))<| .cons (.assign (lt1 rfl) (.tmp rfl))<| ARun.nil _ _ _) ?_
    refine AWP.vc (s' := ⟨[(1,.ptr 1 0),(4,.own 2 1 0 ([(0 : Int)] : List Int).length)],[(2,⟨3,true,([(0 : Int)] : List Int).flatMap (encI .i64)⟩),(1,⟨25,false,[.rd β1 a0.Points.length (a0.Points.flatMap encR45),.rd β2 a0.Before.length (a0.Before.flatMap encR93)]⟩)]⟩) (VC.sub (.c rfl<| .c rfl<| .n _) (.c rfl<| .c rfl<| .n _)) ?_
    refine AWP.seq ?_
    refine AWP.joinB' (S := fun p_90 : (List Int) => ⟨[(4,.own 2 1 0 p_90.length)],[(2,⟨3,true,p_90.flatMap (encI .i64)⟩)]⟩) h (fun p_90 h => ?_) (fun k_91 h => ?_)
    · refine AWP.seq ?_
      refine AWP.region (.cons (.move (lt1 rfl) (.tmp rfl))<| .cons (.assign (lt1 rfl) (.tmp rfl))<| .cons (.assign (lt1 rfl) (.const _ _ _))<| ARun.nil _ _ _) ?_
      refine AWP.ret ?_
      obtain rfl := Option.some.inj h
      refine retJ (Res.vc (s' := ⟨[(2,.rd false p_90.length (p_90.flatMap (encI .i64))),(3,.sc (.int .i64 (0 : Int)))],[]⟩) (VC.trans (VC.frz (d := 2) (t := 2) rfl rfl (encI_len .i64)) (VC.sub (.c rfl<| .c rfl<| .n _) (.n _))) ?_)
      refine Res.drop (H := []) rfl ?_
      exact Res.of rfl (.cons (.tmp rfl) (.cons (.tmp rfl) (.nil))) rfl rfl
    · refine AWP.vc (s' := ⟨[(1,.ptr 1 0),(4,.own 2 1 0 ([(0 : Int)] : List Int).length)],[(1,⟨25,false,[.rd β1 a0.Points.length (a0.Points.flatMap encR45),.rd β2 a0.Before.length (a0.Before.flatMap encR93)]⟩),(2,⟨3,true,([(0 : Int)] : List Int).flatMap (encI .i64)⟩)]⟩) (VC.sub (.c rfl<| .c rfl<| .n _) (.c rfl<| .c rfl<| .n _)) ?_
      refine AWP.loopM (S := fun x_60 : (List Int) => ⟨[(1,.ptr 1 0),(4,.own 2 1 0 x_60.length)],[(1,⟨25,false,[.rd β1 a0.Points.length (a0.Points.flatMap encR45),.rd β2 a0.Before.length (a0.Before.flatMap encR93)]⟩),(2,⟨3,true,x_60.flatMap (encI .i64)⟩)]⟩) (x := ([(0 : Int)] : List Int)) (fun nx_61 x_60 h => ?_) h
      unfold m32_L3 at h
      refine AWP.seq ?_
      refine AWP.seq ?_
      refine AWP.region (.cons (.move (lt1 rfl) (.tmp rfl))<| .cons (.lenOwn (lt1 rfl) (.tmp rfl) Try.underlying28)<| .cons (.fieldP (lt1 rfl) (.tmp rfl) fld25_0)<| .cons (.loadP (lt1 rfl) (.tmp rfl) one22 rfl rfl rfl)<| .cons (.lenRd (lt1 rfl) (.tmp rfl) Try.underlying22)<| .cons (.lss (lt1 rfl) (.tmp rfl) (.tmp rfl))<| ARun.nil _ _ _) ?_
      refine AWP.vc (s' := ⟨[(1,.ptr 1 0),(4,.own 2 1 0 x_60.length),(18,.sc (.bool (decide ((x_60.length : Int) < (a0.Points.length : Int)))))],[(1,⟨25,false,[.rd β1 a0.Points.length (a0.Points.flatMap encR45),.rd β2 a0.Before.length (a0.Before.flatMap encR93)]⟩),(2,⟨3,true,x_60.flatMap (encI .i64)⟩)]⟩) (VC.sub (.c rfl<| .c rfl<| .c rfl<| .n _) (.c rfl<| .c rfl<| .n _)) ?_
      refine AWP.cond (.tmp rfl) (fun hc => ?_) (fun hc => ?_)
      · have h := iteT hc h
        refine AWP.skip ?_
        refine AWP.block ?_
        refine AWP.seq ?_
        obtain ⟨y_62,hy_62,h⟩ := bindS h
        refine AWP.region (.cons (.loadPA (lt1 rfl) (.tmp rfl) agg25 rfl rfl rfl rfl)<| .cons (.move (lt1 rfl) (.tmp rfl))<| .cons (.call0 (bw := true) (lt1 rfl) (c45 (β1 := β1) (β2 := β2) (β3 := true) n (R24.mk a0.Points a0.Before) x_60 hy_62) (.cons (.tmp rfl) (.ren rfl) (.cons (.tmp rfl) (.lendRow rfl rfl (encI_len .i64) rfl) (.nil))) rfl)<| .cons (.assign (lt1 rfl) (.tmp rfl))<| ARun.nil _ _ _) ?_
        refine AWP.vc (s' := ⟨[(1,.ptr 1 0),(4,.own 2 1 0 x_60.length),(5,.rd false y_62.length (y_62.flatMap (encI .i64)))],[(1,⟨25,false,[.rd β1 a0.Points.length (a0.Points.flatMap encR45),.rd β2 a0.Before.length (a0.Before.flatMap encR93)]⟩),(2,⟨3,true,x_60.flatMap (encI .i64)⟩)]⟩) (VC.sub (.c rfl<| .c rfl<| .c rfl<| .n _) (.c rfl<| .c rfl<| .n _)) ?_
        refine AWP.seq ?_
        obtain ⟨y_63,hy_63,h⟩ := bindS h
        obtain ⟨y_64,hy_64,h⟩ := bindS h
        refine AWP.draw (s' := ⟨[(1,.ptr 1 0),(4,.own 2 1 0 x_60.length),(5,.rd false y_62.length (y_62.flatMap (encI .i64))),(6,.ptr 3 0)],[(3,⟨46,false,[.sc (.int .i64 y_64.X),.sc (.int .i64 y_64.Y)]⟩),(1,⟨25,false,[.rd β1 a0.Points.length (a0.Points.flatMap encR45),.rd β2 a0.Before.length (a0.Before.flatMap encR93)]⟩),(2,⟨3,true,x_60.flatMap (encI .i64)⟩)]⟩) mixed [⟨1,.ptr 1 0,none,[]⟩,⟨4,.own 2 1 0 x_60.length,none,[]⟩,⟨5,.rd false y_62.length (y_62.flatMap (encI .i64)),none,[]⟩,⟨22,.ptr 1 (0 + 0),some 0,[]⟩,⟨23,.rd β1 a0.Points.length (a0.Points.flatMap encR45),some 1,[]⟩,⟨24,.own 2 1 0 x_60.length,some 2,[]⟩,⟨25,.own 2 1 0 x_60.length,some 3,[]⟩,⟨26,.sc (.int .i64 (x_60.length : Int)),some 4,[]⟩,⟨27,.sc (.int .i64 (IntKind.wrap .i64 ((x_60.length : Int) - (1 : Int)))),some 5,[]⟩,⟨28,.ptr 2 (0 + ((IntKind.wrap .i64 ((x_60.length : Int) - (1 : Int)))).toNat * 1),some 6,[]⟩,⟨29,.sc (.int .i64 y_63),some 7,[]⟩,⟨30,.rptr β1 [.sc (.int .i64 y_64.X),.sc (.int .i64 y_64.Y)],some 8,[]⟩,⟨31,.agg [.sc (.int .i64 y_64.X),.sc (.int .i64 y_64.Y)],some 9,[]⟩,⟨6,.ptr 3 0,some 10,[]⟩] [⟨[0],0,1,some (22,.ptr 1 (0 + 0)),[]⟩,⟨[3],0,1,some (23,.rd β1 a0.Points.length (a0.Points.flatMap encR45)),[]⟩,⟨[1],0,1,some (24,.own 2 1 0 x_60.length),[]⟩,⟨[1],0,1,some (25,.own 2 1 0 x_60.length),[]⟩,⟨[6],0,1,some (26,.sc (.int .i64 (x_60.length : Int))),[]⟩,⟨[7],0,2,some (27,.sc (.int .i64 (IntKind.wrap .i64 ((x_60.length : Int) - (1 : Int))))),[]⟩,⟨[5,8],0,1,some (28,.ptr 2 (0 + ((IntKind.wrap .i64 ((x_60.length : Int) - (1 : Int)))).toNat * 1)),[]⟩,⟨[9],0,1,some (29,.sc (.int .i64 y_63)),[]⟩,⟨[4,10],0,2,some (30,.rptr β1 [.sc (.int .i64 y_64.X),.sc (.int .i64 y_64.Y)]),[]⟩,⟨[11],0,2,some (31,.agg [.sc (.int .i64 y_64.X),.sc (.int .i64 y_64.Y)]),[]⟩,⟨[],0,0,some (6,.ptr 3 0),[3]⟩,⟨[13,12],1,1,none,[]⟩] [10,11] [[(1,⟨25,false,[.rd β1 a0.Points.length (a0.Points.flatMap encR45),.rd β2 a0.Before.length (a0.Before.flatMap encR93)]⟩),(2,⟨3,true,x_60.flatMap (encI .i64)⟩)],[(3,⟨46,false,[.sc (.int .i64 (0 : Int)),.sc (.int .i64 (0 : Int))]⟩),(1,⟨25,false,[.rd β1 a0.Points.length (a0.Points.flatMap encR45),.rd β2 a0.Before.length (a0.Before.flatMap encR93)]⟩),(2,⟨3,true,x_60.flatMap (encI .i64)⟩)],[(3,⟨46,false,[.sc (.int .i64 y_64.X),.sc (.int .i64 y_64.Y)]⟩),(1,⟨25,false,[.rd β1 a0.Points.length (a0.Points.flatMap encR45),.rd β2 a0.Before.length (a0.Before.flatMap encR93)]⟩),(2,⟨3,true,x_60.flatMap (encI .i64)⟩)]] [[],[0],[],[],[3],[3,4],[2,3,4,5],[2,3,4,5,6],[0,1,2,3,4,5,6,7],[0,1,2,3,4,5,6,7,8],[],[0,1,2,3,4,5,6,7,8,9,10]] (by kernel_rfl) (by kernel_rfl) (BornL.ok (.o<| .o<| .o<| .b rfl rfl<| .b rfl rfl<| .b rfl rfl<| .b rfl rfl<| .b rfl rfl<| .b rfl rfl<| .b rfl rfl<| .b rfl rfl<| .b rfl rfl<| .b rfl rfl<| .b rfl rfl<| .n)) (BaseL.ok (.o rfl<| .o rfl<| .o rfl<| .b<| .b<| .b<| .b<| .b<| .b<| .b<| .b<| .b<| .b<| .b<| .n)) rfl (by decide) (allLt rfl) (.read rfl (.c (.put (fun E hE => .fieldP (lt1 rfl) (.tmp (hE.at (k := 0) rfl)) fld25_0)) (.c (.put (fun E hE => .fieldP (lt1 rfl) (.tmp (hE.at (k := 0) rfl)) fld25_0)) (.n)))<| .read rfl (.c (.put (fun E hE => .loadP (lt1 rfl) (.tmp (hE.at (k := 0) rfl)) one22 rfl rfl rfl)) (.c (.put (fun E hE => .loadP (lt1 rfl) (.tmp (hE.at (k := 0) rfl)) one22 rfl rfl rfl)) (.n)))<| .read rfl (.c (.put (fun E hE => .move (lt1 rfl) (.tmp (hE.at (k := 0) rfl)))) (.c (.put (fun E hE => .move (lt1 rfl) (.tmp (hE.at (k := 0) rfl)))) (.n)))<| .read rfl (.c (.put (fun E hE => .move (lt1 rfl) (.tmp (hE.at (k := 0) rfl)))) (.c (.put (fun E hE => .move (lt1 rfl) (.tmp (hE.at (k := 0) rfl)))) (.n)))<| .read rfl (.c (.put (fun E hE => .lenOwn (lt1 rfl) (.tmp (hE.at (k := 0) rfl)) Try.underlying28)) (.c (.put (fun E hE => .lenOwn (lt1 rfl) (.tmp (hE.at (k := 0) rfl)) Try.underlying28)) (.n)))<| .pure rfl (fun H => .put (fun E hE => .sub (lt1 rfl) (.tmp (hE.at (k := 0) rfl)) (.const _ _ _)))<| .read rfl (.c (.put (fun E hE => .idxOwn (lt1 rfl) (.tmp (hE.at (k := 0) rfl)) (.tmp (hE.at (k := 1) rfl)) Try.underlying28 sz3 rfl hy_63)) (.c (.put (fun E hE => .idxOwn (lt1 rfl) (.tmp (hE.at (k := 0) rfl)) (.tmp (hE.at (k := 1) rfl)) Try.underlying28 sz3 rfl hy_63)) (.n)))<| .read rfl (.c (.put (fun E hE => .loadP (lt1 rfl) (.tmp (hE.at (k := 0) rfl)) one3 rfl (cell_at1 (encI_len .i64) hy_63) rfl)) (.c (.put (fun E hE => .loadP (lt1 rfl) (.tmp (hE.at (k := 0) rfl)) one3 rfl (cell_at1 (encI_len .i64) hy_63) rfl)) (.n)))<| .pure rfl (fun H => .put (fun E hE => .indexRd (enc := encR45) (lt1 rfl) (.tmp (hE.at (k := 0) rfl)) (.tmp (hE.at (k := 1) rfl)) Try.underlying22 sz46 encR45_len rfl hy_64))<| .pure rfl (fun H => .put (fun E hE => .loadRA (out := [.sc (.int .i64 y_64.X),.sc (.int .i64 y_64.Y)]) (lt1 rfl) (.tmp (hE.at (k := 0) rfl)) agg46 (Nat.le_of_eq (Eq.symm (encR45_len _))) rfl))<| .turn rfl rfl rfl rfl rfl (.new (fun E hE => .alloc (t := 3) (k := ⟨46,false,[.sc (.int .i64 (0 : Int)),.sc (.int .i64 (0 : Int))]⟩) (lt1 rfl) (nm rfl) zero46 rfl rfl) rfl)<| .turn rfl rfl rfl rfl rfl (.store (fun E hE => .storePA (.tmp (hE.at (k := 0) rfl)) (.tmp (hE.at (k := 1) rfl)) sz46 rfl rfl (le1 rfl) (one_lit rfl) (by intro h; cases h) rfl) rfl)<| .nil _) (fun E hE => .c (DInv.at hE (k := 0) rfl rfl rfl)<| .c (DInv.at hE (k := 1) rfl rfl rfl)<| .c (DInv.at hE (k := 2) rfl rfl rfl)<| .c (DInv.at hE (k := 13) rfl rfl rfl)<| .n _) rfl ?_
        refine AWP.vc (s' := ⟨[(1,.ptr 1 0),(4,.own 2 1 0 x_60.length),(5,.rd false y_62.length (y_62.flatMap (encI .i64))),(6,.ptr 3 0)],[(3,⟨46,false,[.sc (.int .i64 y_64.X),.sc (.int .i64 y_64.Y)]⟩),(1,⟨25,false,[.rd β1 a0.Points.length (a0.Points.flatMap encR45),.rd β2 a0.Before.length (a0.Before.flatMap encR93)]⟩),(2,⟨3,true,x_60.flatMap (encI .i64)⟩)]⟩) (VC.sub (.c rfl<| .c rfl<| .c rfl<| .c rfl<| .n _) (.c rfl<| .c rfl<| .c rfl<| .n _)) ?_
        refine AWP.seq ?_
        refine AWP.region (.cons (.assign (lt1 rfl) (.const _ _ _))<| ARun.nil _ _ _) ?_
        refine AWP.vc (s' := ⟨[(1,.ptr 1 0),(4,.own 2 1 0 x_60.length),(5,.rd false y_62.length (y_62.flatMap (encI .i64))),(6,.ptr 3 0),(7,.sc (.int .i64 (0 : Int)))],[(3,⟨46,false,[.sc (.int .i64 y_64.X),.sc (.int .i64 y_64.Y)]⟩),(1,⟨25,false,[.rd β1 a0.Points.length (a0.Points.flatMap encR45),.rd β2 a0.Before.length (a0.Before.flatMap encR93)]⟩),(2,⟨3,true,x_60.flatMap (encI .i64)⟩)]⟩) (VC.sub (.c rfl<| .c rfl<| .c rfl<| .c rfl<| .c rfl<| .n _) (.c rfl<| .c rfl<| .c rfl<| .n _)) ?_
        refine AWP.seq ?_
        refine AWP.seq ?_
        refine AWP.region (.cons (.assign (lt1 rfl) (.const _ _ _))<| ARun.nil _ _ _) ?_
        refine AWP.vc (s' := ⟨[(1,.ptr 1 0),(4,.own 2 1 0 x_60.length),(5,.rd false y_62.length (y_62.flatMap (encI .i64))),(6,.ptr 3 0),(7,.sc (.int .i64 (0 : Int))),(8,.sc (.int .i64 (1 : Int)))],[(3,⟨46,false,[.sc (.int .i64 y_64.X),.sc (.int .i64 y_64.Y)]⟩),(1,⟨25,false,[.rd β1 a0.Points.length (a0.Points.flatMap encR45),.rd β2 a0.Before.length (a0.Before.flatMap encR93)]⟩),(2,⟨3,true,x_60.flatMap (encI .i64)⟩)]⟩) (VC.sub (.c rfl<| .c rfl<| .c rfl<| .c rfl<| .c rfl<| .c rfl<| .n _) (.c rfl<| .c rfl<| .c rfl<| .n _)) ?_
        refine AWP.joinB' (S := fun p_86 : Int => ⟨[(1,.ptr 1 0),(4,.own 2 1 0 x_60.length),(5,.rd false y_62.length (y_62.flatMap (encI .i64))),(7,.sc (.int .i64 p_86))],[(1,⟨25,false,[.rd β1 a0.Points.length (a0.Points.flatMap encR45),.rd β2 a0.Before.length (a0.Before.flatMap encR93)]⟩),(2,⟨3,true,x_60.flatMap (encI .i64)⟩)]⟩) h (fun p_86 h => ?_) (fun k_87 h => ?_)
        · obtain ⟨y_88,hy_88,h⟩ := bindS h
          obtain ⟨l2_89,hl2_89,h⟩ := bindS h
          refine AWP.region (.cons (.move (lt1 rfl) (.tmp rfl))<| .cons (.move (lt1 rfl) (.tmp rfl))<| .cons (.move (lt1 rfl) (.tmp rfl))<| .cons (.indexRd (enc := (encI .i64)) (lt1 rfl) (.tmp rfl) (.tmp rfl) Try.underlying28 sz3 (encI_len .i64) rfl hy_88)<| .cons (.loadR (v := .sc (.int .i64 y_88)) (lt1 rfl) (.tmp rfl) one3 rfl)<| .cons (.buildSlice (t := 4) (out := ([y_88] : List Int).flatMap (encI .i64)) (lt1 rfl) (nm rfl) (.cons (.tmp rfl) (by first | exact ⟨rfl,rfl⟩ | rfl) (.nil)) Try.underlying28 zero3 el3 (by decide) (by decide) rfl (still_all (encI_still .i64) _))<| .cons (.app (enc := (encI .i64)) (lt1 rfl) (nm rfl) (.tmp rfl) (Src.own (.tmp rfl) rfl (lendAll (encI_len .i64) _) (flatMap_length (encI_len .i64) _) (one_all (encI_one .i64) _) (.inl rfl)) Try.underlying28 ⟨_,Try.underlying28,by intro k hk; cases hk⟩ el3 rfl (encI_len .i64) rfl rfl (by decide) hl2_89)<| .cons (.assign (lt1 rfl) (.tmp rfl))<| ARun.nil _ _ _) ?_
          exact endJ l2_89 h (VC.sub (.c rfl<| .c rfl<| .n _) (.c rfl<| .c rfl<| .n _))
        · refine AWP.vc (s' := ⟨[(1,.ptr 1 0),(4,.own 2 1 0 x_60.length),(5,.rd false y_62.length (y_62.flatMap (encI .i64))),(6,.ptr 3 0),(7,.sc (.int .i64 (0 : Int))),(8,.sc (.int .i64 (1 : Int)))],[(1,⟨25,false,[.rd β1 a0.Points.length (a0.Points.flatMap encR45),.rd β2 a0.Before.length (a0.Before.flatMap encR93)]⟩),(2,⟨3,true,x_60.flatMap (encI .i64)⟩),(3,⟨46,false,[.sc (.int .i64 y_64.X),.sc (.int .i64 y_64.Y)]⟩)]⟩) (VC.sub (.c rfl<| .c rfl<| .c rfl<| .c rfl<| .c rfl<| .c rfl<| .n _) (.c rfl<| .c rfl<| .c rfl<| .n _)) ?_
          refine AWP.loopM (S := fun x_75 : Int × Int => ⟨[(1,.ptr 1 0),(4,.own 2 1 0 x_60.length),(5,.rd false y_62.length (y_62.flatMap (encI .i64))),(6,.ptr 3 0),(7,.sc (.int .i64 x_75.1)),(8,.sc (.int .i64 x_75.2))],[(1,⟨25,false,[.rd β1 a0.Points.length (a0.Points.flatMap encR45),.rd β2 a0.Before.length (a0.Before.flatMap encR93)]⟩),(2,⟨3,true,x_60.flatMap (encI .i64)⟩),(3,⟨46,false,[.sc (.int .i64 y_64.X),.sc (.int .i64 y_64.Y)]⟩)]⟩) (x := ((0 : Int),(1 : Int))) (fun nx_76 x_75 h => ?_) h
          unfold m32_L4 at h
          refine AWP.seq ?_
          refine AWP.seq ?_
          refine AWP.region (.cons (.move (lt1 rfl) (.tmp rfl))<| .cons (.move (lt1 rfl) (.tmp rfl))<| .cons (.lenRd (lt1 rfl) (.tmp rfl) Try.underlying28)<| .cons (.lss (lt1 rfl) (.tmp rfl) (.tmp rfl))<| ARun.nil _ _ _) ?_
          refine AWP.vc (s' := ⟨[(1,.ptr 1 0),(4,.own 2 1 0 x_60.length),(5,.rd false y_62.length (y_62.flatMap (encI .i64))),(6,.ptr 3 0),(7,.sc (.int .i64 x_75.1)),(8,.sc (.int .i64 x_75.2)),(35,.sc (.bool (decide (x_75.2 < (y_62.length : Int)))))],[(1,⟨25,false,[.rd β1 a0.Points.length (a0.Points.flatMap encR45),.rd β2 a0.Before.length (a0.Before.flatMap encR93)]⟩),(2,⟨3,true,x_60.flatMap (encI .i64)⟩),(3,⟨46,false,[.sc (.int .i64 y_64.X),.sc (.int .i64 y_64.Y)]⟩)]⟩) (VC.sub (.c rfl<| .c rfl<| .c rfl<| .c rfl<| .c rfl<| .c rfl<| .c rfl<| .n _) (.c rfl<| .c rfl<| .c rfl<| .n _)) ?_
          refine AWP.cond (.tmp rfl) (fun hc => ?_) (fun hc => ?_)
          · have h := iteT hc h
            refine AWP.skip ?_
            refine AWP.seq ?_
            refine AWP.block ?_
            refine AWP.seq ?_
            obtain ⟨y_77,hy_77,h⟩ := bindS h
            obtain ⟨y_78,hy_78,h⟩ := bindS h
            obtain ⟨y_79,hy_79,h⟩ := bindS h
            obtain ⟨y_80,hy_80,h⟩ := bindS h
            obtain ⟨y_81,hy_81,h⟩ := bindS h
            obtain ⟨y_82,hy_82,h⟩ := bindS h
            refine AWP.draw (s' := ⟨[(1,.ptr 1 0),(4,.own 2 1 0 x_60.length),(5,.rd false y_62.length (y_62.flatMap (encI .i64))),(6,.ptr 3 0),(7,.sc (.int .i64 x_75.1)),(8,.sc (.int .i64 x_75.2)),(58,.sc (.bool (decide (y_79 < y_82))))],[(1,⟨25,false,[.rd β1 a0.Points.length (a0.Points.flatMap encR45),.rd β2 a0.Before.length (a0.Before.flatMap encR93)]⟩),(2,⟨3,true,x_60.flatMap (encI .i64)⟩),(3,⟨46,false,[.sc (.int .i64 y_64.X),.sc (.int .i64 y_64.Y)]⟩)]⟩) mixed [⟨1,.ptr 1 0,none,[]⟩,⟨4,.own 2 1 0 x_60.length,none,[]⟩,⟨5,.rd false y_62.length (y_62.flatMap (encI .i64)),none,[]⟩,⟨6,.ptr 3 0,none,[]⟩,⟨7,.sc (.int .i64 x_75.1),none,[]⟩,⟨8,.sc (.int .i64 x_75.2),none,[]⟩,⟨35,.sc (.bool (decide (x_75.2 < (y_62.length : Int)))),none,[]⟩,⟨38,.agg [.sc (.int .i64 y_64.X),.sc (.int .i64 y_64.Y)],some 0,[]⟩,⟨39,.ptr 1 (0 + 0),some 1,[]⟩,⟨40,.rd β1 a0.Points.length (a0.Points.flatMap encR45),some 2,[]⟩,⟨41,.rd false y_62.length (y_62.flatMap (encI .i64)),some 3,[]⟩,⟨42,.sc (.int .i64 x_75.2),some 4,[]⟩,⟨43,.rptr false [.sc (.int .i64 y_77)],some 5,[]⟩,⟨44,.sc (.int .i64 y_77),some 6,[]⟩,⟨45,.rptr β1 [.sc (.int .i64 y_78.X),.sc (.int .i64 y_78.Y)],some 7,[]⟩,⟨46,.agg [.sc (.int .i64 y_78.X),.sc (.int .i64 y_78.Y)],some 8,[]⟩,⟨47,.sc (.int .i64 y_79),some 9,[]⟩,⟨48,.agg [.sc (.int .i64 y_64.X),.sc (.int .i64 y_64.Y)],some 10,[]⟩,⟨49,.ptr 1 (0 + 0),some 11,[]⟩,⟨50,.rd β1 a0.Points.length (a0.Points.flatMap encR45),some 12,[]⟩,⟨51,.rd false y_62.length (y_62.flatMap (encI .i64)),some 13,[]⟩,⟨52,.sc (.int .i64 x_75.1),some 14,[]⟩,⟨53,.rptr false [.sc (.int .i64 y_80)],some 15,[]⟩,⟨54,.sc (.int .i64 y_80),some 16,[]⟩,⟨55,.rptr β1 [.sc (.int .i64 y_81.X),.sc (.int .i64 y_81.Y)],some 17,[]⟩,⟨56,.agg [.sc (.int .i64 y_81.X),.sc (.int .i64 y_81.Y)],some 18,[]⟩,⟨57,.sc (.int .i64 y_82),some 19,[]⟩,⟨58,.sc (.bool (decide (y_79 < y_82))),some 20,[]⟩] [⟨[3],0,0,some (38,.agg [.sc (.int .i64 y_64.X),.sc (.int .i64 y_64.Y)]),[]⟩,⟨[0],0,0,some (39,.ptr 1 (0 + 0)),[]⟩,⟨[8],0,0,some (40,.rd β1 a0.Points.length (a0.Points.flatMap encR45)),[]⟩,⟨[2],0,0,some (41,.rd false y_62.length (y_62.flatMap (encI .i64))),[]⟩,⟨[5],0,0,some (42,.sc (.int .i64 x_75.2)),[]⟩,⟨[10,11],0,0,some (43,.rptr false [.sc (.int .i64 y_77)]),[]⟩,⟨[12],0,0,some (44,.sc (.int .i64 y_77)),[]⟩,⟨[9,13],0,0,some (45,.rptr β1 [.sc (.int .i64 y_78.X),.sc (.int .i64 y_78.Y)]),[]⟩,⟨[14],0,0,some (46,.agg [.sc (.int .i64 y_78.X),.sc (.int .i64 y_78.Y)]),[]⟩,⟨[7,15],0,0,some (47,.sc (.int .i64 y_79)),[]⟩,⟨[3],0,0,some (48,.agg [.sc (.int .i64 y_64.X),.sc (.int .i64 y_64.Y)]),[]⟩,⟨[0],0,0,some (49,.ptr 1 (0 + 0)),[]⟩,⟨[18],0,0,some (50,.rd β1 a0.Points.length (a0.Points.flatMap encR45)),[]⟩,⟨[2],0,0,some (51,.rd false y_62.length (y_62.flatMap (encI .i64))),[]⟩,⟨[4],0,0,some (52,.sc (.int .i64 x_75.1)),[]⟩,⟨[20,21],0,0,some (53,.rptr false [.sc (.int .i64 y_80)]),[]⟩,⟨[22],0,0,some (54,.sc (.int .i64 y_80)),[]⟩,⟨[19,23],0,0,some (55,.rptr β1 [.sc (.int .i64 y_81.X),.sc (.int .i64 y_81.Y)]),[]⟩,⟨[24],0,0,some (56,.agg [.sc (.int .i64 y_81.X),.sc (.int .i64 y_81.Y)]),[]⟩,⟨[17,25],0,0,some (57,.sc (.int .i64 y_82)),[]⟩,⟨[16,26],0,0,some (58,.sc (.bool (decide (y_79 < y_82)))),[]⟩] [] [[(1,⟨25,false,[.rd β1 a0.Points.length (a0.Points.flatMap encR45),.rd β2 a0.Before.length (a0.Before.flatMap encR93)]⟩),(2,⟨3,true,x_60.flatMap (encI .i64)⟩),(3,⟨46,false,[.sc (.int .i64 y_64.X),.sc (.int .i64 y_64.Y)]⟩)]] [[],[],[1],[],[],[3,4],[3,4,5],[1,2,3,4,5,6],[1,2,3,4,5,6,7],[0,1,2,3,4,5,6,7,8],[],[],[11],[],[],[13,14],[13,14,15],[11,12,13,14,15,16],[11,12,13,14,15,16,17],[0,1,2,3,4,5,6,7,8,9,10,11,12,13,14,15,16,17,18],[0,1,2,3,4,5,6,7,8,9,10,11,12,13,14,15,16,17,18,19]] (by kernel_rfl) (by kernel_rfl) (BornL.ok (.o<| .o<| .o<| .o<| .o<| .o<| .o<| .b rfl rfl<| .b rfl rfl<| .b rfl rfl<| .b rfl rfl<| .b rfl rfl<| .b rfl rfl<| .b rfl rfl<| .b rfl rfl<| .b rfl rfl<| .b rfl rfl<| .b rfl rfl<| .b rfl rfl<| .b rfl rfl<| .b rfl rfl<| .b rfl rfl<| .b rfl rfl<| .b rfl rfl<| .b rfl rfl<| .b rfl rfl<| .b rfl rfl<| .b rfl rfl<| .n)) (BaseL.ok (.o rfl<| .o rfl<| .o rfl<| .o rfl<| .o rfl<| .o rfl<| .o rfl<| .b<| .b<| .b<| .b<| .b<| .b<| .b<| .b<| .b<| .b<| .b<| .b<| .b<| .b<| .b<| .b<| .b<| .b<| .b<| .b<| .b<| .n)) rfl (by decide) (allLt rfl) (.read rfl (.c (.put (fun E hE => .loadPA (lt1 rfl) (.tmp (hE.at (k := 0) rfl)) agg46 rfl rfl rfl rfl)) .n)<| .read rfl (.c (.put (fun E hE => .fieldP (lt1 rfl) (.tmp (hE.at (k := 0) rfl)) fld25_0)) .n)<| .read rfl (.c (.put (fun E hE => .loadP (lt1 rfl) (.tmp (hE.at (k := 0) rfl)) one22 rfl rfl rfl)) .n)<| .pure rfl (fun H => .put (fun E hE => .move (lt1 rfl) (.tmp (hE.at (k := 0) rfl))))<| .pure rfl (fun H => .put (fun E hE => .move (lt1 rfl) (.tmp (hE.at (k := 0) rfl))))<| .pure rfl (fun H => .put (fun E hE => .indexRd (enc := (encI .i64)) (lt1 rfl) (.tmp (hE.at (k := 0) rfl)) (.tmp (hE.at (k := 1) rfl)) Try.underlying28 sz3 (encI_len .i64) rfl hy_77))<| .pure rfl (fun H => .put (fun E hE => .loadR (v := .sc (.int .i64 y_77)) (lt1 rfl) (.tmp (hE.at (k := 0) rfl)) one3 rfl))<| .pure rfl (fun H => .put (fun E hE => .indexRd (enc := encR45) (lt1 rfl) (.tmp (hE.at (k := 0) rfl)) (.tmp (hE.at (k := 1) rfl)) Try.underlying22 sz46 encR45_len rfl hy_78))<| .pure rfl (fun H => .put (fun E hE => .loadRA (out := [.sc (.int .i64 y_78.X),.sc (.int .i64 y_78.Y)]) (lt1 rfl) (.tmp (hE.at (k := 0) rfl)) agg46 (Nat.le_of_eq (Eq.symm (encR45_len _))) rfl))<| .pure rfl (fun H => .put (fun E hE => .call0 (bw := false) (lt1 rfl) (c36 n (R45.mk y_64.X y_64.Y) (R45.mk y_78.X y_78.Y) hy_79) (.cons (.tmp (hE.at (k := 0) rfl)) (.ren rfl) (.cons (.tmp (hE.at (k := 1) rfl)) (.ren rfl) (.nil))) rfl))<| .read rfl (.c (.put (fun E hE => .loadPA (lt1 rfl) (.tmp (hE.at (k := 0) rfl)) agg46 rfl rfl rfl rfl)) .n)<| .read rfl (.c (.put (fun E hE => .fieldP (lt1 rfl) (.tmp (hE.at (k := 0) rfl)) fld25_0)) .n)<| .read rfl (.c (.put (fun E hE => .loadP (lt1 rfl) (.tmp (hE.at (k := 0) rfl)) one22 rfl rfl rfl)) .n)<| .pure rfl (fun H => .put (fun E hE => .move (lt1 rfl) (.tmp (hE.at (k := 0) rfl))))<| .pure rfl (fun H => .put (fun E hE => .move (lt1 rfl) (.tmp (hE.at (k := 0) rfl))))<| .pure rfl (fun H => .put (fun E hE => .indexRd (enc := (encI .i64)) (lt1 rfl) (.tmp (hE.at (k := 0) rfl)) (.tmp (hE.at (k := 1) rfl)) Try.underlying28 sz3 (encI_len .i64) rfl hy_80))<| .pure rfl (fun H => .put (fun E hE => .loadR (v := .sc (.int .i64 y_80)) (lt1 rfl) (.tmp (hE.at (k := 0) rfl)) one3 rfl))<| .pure rfl (fun H => .put (fun E hE => .indexRd (enc := encR45) (lt1 rfl) (.tmp (hE.at (k := 0) rfl)) (.tmp (hE.at (k := 1) rfl)) Try.underlying22 sz46 encR45_len rfl hy_81))<| .pure rfl (fun H => .put (fun E hE => .loadRA (out := [.sc (.int .i64 y_81.X),.sc (.int .i64 y_81.Y)]) (lt1 rfl) (.tmp (hE.at (k := 0) rfl)) agg46 (Nat.le_of_eq (Eq.symm (encR45_len _))) rfl))<| .pure rfl (fun H => .put (fun E hE => .call0 (bw := false) (lt1 rfl) (c36 n (R45.mk y_64.X y_64.Y) (R45.mk y_81.X y_81.Y) hy_82) (.cons (.tmp (hE.at (k := 0) rfl)) (.ren rfl) (.cons (.tmp (hE.at (k := 1) rfl)) (.ren rfl) (.nil))) rfl))<| .pure rfl (fun H => .put (fun E hE => .lss (lt1 rfl) (.tmp (hE.at (k := 0) rfl)) (.tmp (hE.at (k := 1) rfl))))<| .nil _) (fun E hE => .c (DInv.at hE (k := 0) rfl rfl rfl)<| .c (DInv.at hE (k := 1) rfl rfl rfl)<| .c (DInv.at hE (k := 2) rfl rfl rfl)<| .c (DInv.at hE (k := 3) rfl rfl rfl)<| .c (DInv.at hE (k := 4) rfl rfl rfl)<| .c (DInv.at hE (k := 5) rfl rfl rfl)<| .c (DInv.at hE (k := 27) rfl rfl rfl)<| .n _) rfl ?_
            refine AWP.vc (s' := ⟨[(1,.ptr 1 0),(4,.own 2 1 0 x_60.length),(5,.rd false y_62.length (y_62.flatMap (encI .i64))),(6,.ptr 3 0),(7,.sc (.int .i64 x_75.1)),(8,.sc (.int .i64 x_75.2)),(58,.sc (.bool (decide (y_79 < y_82))))],[(1,⟨25,false,[.rd β1 a0.Points.length (a0.Points.flatMap encR45),.rd β2 a0.Before.length (a0.Before.flatMap encR93)]⟩),(2,⟨3,true,x_60.flatMap (encI .i64)⟩),(3,⟨46,false,[.sc (.int .i64 y_64.X),.sc (.int .i64 y_64.Y)]⟩)]⟩) (VC.sub (.c rfl<| .c rfl<| .c rfl<| .c rfl<| .c rfl<| .c rfl<| .c rfl<| .n _) (.c rfl<| .c rfl<| .c rfl<| .n _)) ?_
            refine AWP.join' (S := fun p_83 : Int => ⟨[(1,.ptr 1 0),(4,.own 2 1 0 x_60.length),(5,.rd false y_62.length (y_62.flatMap (encI .i64))),(6,.ptr 3 0),(7,.sc (.int .i64 p_83)),(8,.sc (.int .i64 x_75.2))],[(1,⟨25,false,[.rd β1 a0.Points.length (a0.Points.flatMap encR45),.rd β2 a0.Before.length (a0.Before.flatMap encR93)]⟩),(2,⟨3,true,x_60.flatMap (encI .i64)⟩),(3,⟨46,false,[.sc (.int .i64 y_64.X),.sc (.int .i64 y_64.Y)]⟩)]⟩) h (fun p_83 h => ?_) (fun k_84 h => ?_)
            · obtain ⟨t8_85,ht8_85,h⟩ := letS h
              refine AWP.region (.cons (.move (lt1 rfl) (.tmp rfl))<| .cons (.add (lt1 rfl) (.tmp rfl) (.const _ _ _))<| .cons (.assign (lt1 rfl) (.tmp rfl))<| ARun.nil _ _ _) ?_
              exact endJ (p_83,t8_85) h (by subst ht8_85; exact VC.sub (.c rfl<| .c rfl<| .c rfl<| .c rfl<| .c rfl<| .c rfl<| .n _) (.c rfl<| .c rfl<| .c rfl<| .n _))
            · refine AWP.cond (.tmp rfl) (fun hc => ?_) (fun hc => ?_)
              · have h := iteT hc h
                refine AWP.region (.cons (.move (lt1 rfl) (.tmp rfl))<| .cons (.assign (lt1 rfl) (.tmp rfl))<| ARun.nil _ _ _) ?_
                exact endJ x_75.2 h (VC.sub (.c rfl<| .c rfl<| .c rfl<| .c rfl<| .c rfl<| .c rfl<| .n _) (.c rfl<| .c rfl<| .c rfl<| .n _))
              · have h := iteF hc h
                refine AWP.skip ?_
                exact endJ x_75.1 h (VC.sub (.c rfl<| .c rfl<| .c rfl<| .c rfl<| .c rfl<| .c rfl<| .n _) (.c rfl<| .c rfl<| .c rfl<| .n _))
          · have h := iteF hc h
            refine AWP.exit ?_
            exact endJ x_75.1 h (VC.sub (.c rfl<| .c rfl<| .c rfl<| .c rfl<| .n _) (.c rfl<| .c rfl<| .n _))
      · have h := iteF hc h
        refine AWP.exit ?_
        exact endJ x_60 h (VC.sub (.c rfl<| .n _) (.c rfl<| .n _))
theorem c95 (n : Nat) (a0_b : (List Int)) (a0_n : Nat) (a0_o : Nat) {r : (List Int)} (h : m95 n a0_b a0_n a0_o = some r) : Spec Try.prog 95 [1] [.own 1 1 a0_o a0_n] [(1,⟨3,true,a0_b.flatMap (encI .i64)⟩)] (.tup []) [(1,⟨3,true,r.flatMap (encI .i64)⟩)] := by
  refine Spec.of (fn := Try.f95) Try.func95 Try.ntmps95 rfl rfl (le1 rfl) (fun w0 Zs Zb T0 ι0 => ?_)
  unfold m95 at h
  refine AWP.seq ?_
  obtain ⟨t3_1,ht3_1,h⟩ := letS h
  refine AWP.region (.cons (.move (lt1 rfl) (.tmp rfl))<| .cons (.lenOwn (lt1 rfl) (.tmp rfl) Try.underlying28)<| .cons (.sub (lt1 rfl) (.tmp rfl) (.const _ _ _))<| .cons (.assign (lt1 rfl) (.const _ _ _))<| .cons (.assign (lt1 rfl) (.tmp rfl))<| ARun.nil _ _ _) ?_
  refine AWP.vc (s' := ⟨[(0,.own 1 1 a0_o a0_n),(2,.sc (.int .i64 (0 : Int))),(3,.sc (.int .i64 t3_1))],[(1,⟨3,true,a0_b.flatMap (encI .i64)⟩)]⟩) (by subst ht3_1; exact VC.sub (.c rfl<| .c rfl<| .c rfl<| .n _) (.c rfl<| .n _)) ?_
  refine AWP.joinB' (S := fun p_30 : (List Int) => ⟨[],[(1,⟨3,true,p_30.flatMap (encI .i64)⟩)]⟩) h (fun p_30 h => ?_) (fun k_31 h => ?_)
  · obtain rfl := Option.some.inj h
    refine norJ (Res.vc (s' := ⟨[],[(1,⟨3,true,p_30.flatMap (encI .i64)⟩)]⟩) (VC.sub (.n _) (.c rfl<| .n _)) ?_)
    refine Res.sub (H := [(1,⟨3,true,p_30.flatMap (encI .i64)⟩)]) (.c rfl<| .n _) ?_
    exact Res.of rfl (.nil) rfl rfl
  · refine AWP.vc (s' := ⟨[(0,.own 1 1 a0_o a0_n),(2,.sc (.int .i64 (0 : Int))),(3,.sc (.int .i64 t3_1))],[(1,⟨3,true,a0_b.flatMap (encI .i64)⟩)]⟩) (VC.sub (.c rfl<| .c rfl<| .c rfl<| .n _) (.c rfl<| .n _)) ?_
    refine AWP.loopM (S := fun x_20 : Int × Int × (List Int) => ⟨[(0,.own 1 1 a0_o a0_n),(2,.sc (.int .i64 x_20.1)),(3,.sc (.int .i64 x_20.2.1))],[(1,⟨3,true,x_20.2.2.flatMap (encI .i64)⟩)]⟩) (x := ((0 : Int),t3_1,a0_b)) (fun nx_21 x_20 h => ?_) h
    unfold m95_L1 at h
    refine AWP.seq ?_
    refine AWP.seq ?_
    refine AWP.region (.cons (.move (lt1 rfl) (.tmp rfl))<| .cons (.move (lt1 rfl) (.tmp rfl))<| .cons (.lss (lt1 rfl) (.tmp rfl) (.tmp rfl))<| ARun.nil _ _ _) ?_
    refine AWP.vc (s' := ⟨[(0,.own 1 1 a0_o a0_n),(2,.sc (.int .i64 x_20.1)),(3,.sc (.int .i64 x_20.2.1)),(9,.sc (.bool (decide (x_20.1 < x_20.2.1))))],[(1,⟨3,true,x_20.2.2.flatMap (encI .i64)⟩)]⟩) (VC.sub (.c rfl<| .c rfl<| .c rfl<| .c rfl<| .n _) (.c rfl<| .n _)) ?_
    refine AWP.cond (.tmp rfl) (fun hc => ?_) (fun hc => ?_)
    · have h := iteT hc h
      refine AWP.skip ?_
      refine AWP.seq ?_
      refine AWP.block ?_
      obtain ⟨y_22,hy_22,h⟩ := bindS h
      obtain ⟨y_23,hy_23,h⟩ := bindS h
      obtain ⟨y_24,hy_24,h⟩ := bindS h
      obtain ⟨l1_25,hl1_25,h⟩ := bindS h
      obtain ⟨y_26,hy_26,h⟩ := bindS h
      obtain ⟨l1_27,hl1_27,h⟩ := bindS h
      refine AWP.draw (s' := ⟨[(0,.own 1 1 a0_o a0_n),(2,.sc (.int .i64 x_20.1)),(3,.sc (.int .i64 x_20.2.1))],[(1,⟨3,true,l1_27.flatMap (encI .i64)⟩)]⟩) mixed [⟨0,.own 1 1 a0_o a0_n,none,[]⟩,⟨2,.sc (.int .i64 x_20.1),none,[]⟩,⟨3,.sc (.int .i64 x_20.2.1),none,[]⟩,⟨9,.sc (.bool (decide (x_20.1 < x_20.2.1))),none,[]⟩,⟨14,.own 1 1 a0_o a0_n,some 0,[]⟩,⟨15,.sc (.int .i64 x_20.1),some 1,[]⟩,⟨16,.own 1 1 a0_o a0_n,some 2,[]⟩,⟨17,.sc (.int .i64 x_20.2.1),some 3,[]⟩,⟨18,.own 1 1 a0_o a0_n,some 4,[]⟩,⟨19,.sc (.int .i64 x_20.2.1),some 5,[]⟩,⟨20,.ptr 1 (0 + (((a0_o + (x_20.2.1).toNat : Nat) : Int)).toNat * 1),some 6,[]⟩,⟨21,.sc (.int .i64 y_22),some 7,[]⟩,⟨22,.own 1 1 a0_o a0_n,some 8,[]⟩,⟨23,.sc (.int .i64 x_20.1),some 9,[]⟩,⟨24,.ptr 1 (0 + (((a0_o + (x_20.1).toNat : Nat) : Int)).toNat * 1),some 10,[]⟩,⟨25,.sc (.int .i64 y_23),some 11,[]⟩,⟨26,.ptr 1 (0 + (((a0_o + (x_20.1).toNat : Nat) : Int)).toNat * 1),some 12,[]⟩,⟨27,.ptr 1 (0 + (((a0_o + (x_20.2.1).toNat : Nat) : Int)).toNat * 1),some 14,[]⟩] [⟨[0],0,0,some (14,.own 1 1 a0_o a0_n),[]⟩,⟨[1],0,2,some (15,.sc (.int .i64 x_20.1)),[]⟩,⟨[0],0,1,some (16,.own 1 1 a0_o a0_n),[]⟩,⟨[2],0,2,some (17,.sc (.int .i64 x_20.2.1)),[]⟩,⟨[0],0,0,some (18,.own 1 1 a0_o a0_n),[]⟩,⟨[2],0,2,some (19,.sc (.int .i64 x_20.2.1)),[]⟩,⟨[8,9],0,0,some (20,.ptr 1 (0 + (((a0_o + (x_20.2.1).toNat : Nat) : Int)).toNat * 1)),[]⟩,⟨[10],0,0,some (21,.sc (.int .i64 y_22)),[]⟩,⟨[0],0,0,some (22,.own 1 1 a0_o a0_n),[]⟩,⟨[1],0,2,some (23,.sc (.int .i64 x_20.1)),[]⟩,⟨[12,13],0,0,some (24,.ptr 1 (0 + (((a0_o + (x_20.1).toNat : Nat) : Int)).toNat * 1)),[]⟩,⟨[14],0,0,some (25,.sc (.int .i64 y_23)),[]⟩,⟨[4,5],0,0,some (26,.ptr 1 (0 + (((a0_o + (x_20.1).toNat : Nat) : Int)).toNat * 1)),[]⟩,⟨[16,11],0,0,none,[]⟩,⟨[6,7],1,1,some (27,.ptr 1 (0 + (((a0_o + (x_20.2.1).toNat : Nat) : Int)).toNat * 1)),[]⟩,⟨[17,15],1,1,none,[]⟩] [13,15] [[(1,⟨3,true,x_20.2.2.flatMap (encI .i64)⟩)],[(1,⟨3,true,l1_25.flatMap (encI .i64)⟩)],[(1,⟨3,true,l1_27.flatMap (encI .i64)⟩)]] [[],[],[],[],[],[],[4,5],[4,5,6],[],[],[8,9],[8,9,10],[0,1,4,5,6,7,8,9,10,11],[0,1,4,5,6,7,8,9,10,11,12],[0,1,2,3,4,5,6,7,8,9,10,11,12,13],[0,1,2,3,4,5,6,7,8,9,10,11,12,13,14]] (by kernel_rfl) (by kernel_rfl) (BornL.ok (.o<| .o<| .o<| .o<| .b rfl rfl<| .b rfl rfl<| .b rfl rfl<| .b rfl rfl<| .b rfl rfl<| .b rfl rfl<| .b rfl rfl<| .b rfl rfl<| .b rfl rfl<| .b rfl rfl<| .b rfl rfl<| .b rfl rfl<| .b rfl rfl<| .b rfl rfl<| .n)) (BaseL.ok (.o rfl<| .o rfl<| .o rfl<| .o rfl<| .b<| .b<| .b<| .b<| .b<| .b<| .b<| .b<| .b<| .b<| .b<| .b<| .b<| .b<| .n)) rfl (by decide) (allLt rfl) (.read rfl (.c (.put (fun E hE => .move (lt1 rfl) (.tmp (hE.at (k := 0) rfl)))) (.n))<| .pure rfl (fun H => .put (fun E hE => .move (lt1 rfl) (.tmp (hE.at (k := 0) rfl))))<| .read rfl (.c (.put (fun E hE => .move (lt1 rfl) (.tmp (hE.at (k := 0) rfl)))) (.c (.put (fun E hE => .move (lt1 rfl) (.tmp (hE.at (k := 0) rfl)))) (.n)))<| .pure rfl (fun H => .put (fun E hE => .move (lt1 rfl) (.tmp (hE.at (k := 0) rfl))))<| .read rfl (.c (.put (fun E hE => .move (lt1 rfl) (.tmp (hE.at (k := 0) rfl)))) (.n))<| .pure rfl (fun H => .put (fun E hE => .move (lt1 rfl) (.tmp (hE.at (k := 0) rfl))))<| .read rfl (.c (.put (fun E hE => .idxPart (lt1 rfl) (.tmp (hE.at (k := 0) rfl)) (.tmp (hE.at (k := 1) rfl)) Try.underlying28 sz3 hy_22)) (.n))<| .read rfl (.c (.put (fun E hE => .loadP (lt1 rfl) (.tmp (hE.at (k := 0) rfl)) one3 rfl (cell_at1 (encI_len .i64) (gipS hy_22)) rfl)) (.n))<| .read rfl (.c (.put (fun E hE => .move (lt1 rfl) (.tmp (hE.at (k := 0) rfl)))) (.n))<| .pure rfl (fun H => .put (fun E hE => .move (lt1 rfl) (.tmp (hE.at (k := 0) rfl))))<| .read rfl (.c (.put (fun E hE => .idxPart (lt1 rfl) (.tmp (hE.at (k := 0) rfl)) (.tmp (hE.at (k := 1) rfl)) Try.underlying28 sz3 hy_23)) (.n))<| .read rfl (.c (.put (fun E hE => .loadP (lt1 rfl) (.tmp (hE.at (k := 0) rfl)) one3 rfl (cell_at1 (encI_len .i64) (gipS hy_23)) rfl)) (.n))<| .read rfl (.c (.put (fun E hE => .idxPart (lt1 rfl) (.tmp (hE.at (k := 0) rfl)) (.tmp (hE.at (k := 1) rfl)) Try.underlying28 sz3 hy_24)) (.n))<| .turn rfl rfl rfl rfl rfl (.store (fun E hE => .storeP (.tmp (hE.at (k := 0) rfl)) (.tmp (hE.at (k := 1) rfl)) sz3 rfl (lt_at1 (encI_len .i64) (gipS hy_24)) rfl (fun _ => rfl) (set_at1 (encI_len .i64) hl1_25 rfl)) rfl)<| .read rfl (.c (.put (fun E hE => .idxPart (lt1 rfl) (.tmp (hE.at (k := 0) rfl)) (.tmp (hE.at (k := 1) rfl)) Try.underlying28 sz3 hy_26)) (.n))<| .turn rfl rfl rfl rfl rfl (.store (fun E hE => .storeP (.tmp (hE.at (k := 0) rfl)) (.tmp (hE.at (k := 1) rfl)) sz3 rfl (lt_at1 (encI_len .i64) (gipS hy_26)) rfl (fun _ => rfl) (set_at1 (encI_len .i64) hl1_27 rfl)) rfl)<| .nil _) (fun E hE => .c (DInv.at hE (k := 0) rfl rfl rfl)<| .c (DInv.at hE (k := 1) rfl rfl rfl)<| .c (DInv.at hE (k := 2) rfl rfl rfl)<| .n _) rfl ?_
      refine AWP.vc (s' := ⟨[(0,.own 1 1 a0_o a0_n),(2,.sc (.int .i64 x_20.1)),(3,.sc (.int .i64 x_20.2.1))],[(1,⟨3,true,l1_27.flatMap (encI .i64)⟩)]⟩) (VC.sub (.c rfl<| .c rfl<| .c rfl<| .n _) (.c rfl<| .n _)) ?_
      obtain ⟨t2_28,ht2_28,h⟩ := letS h
      obtain ⟨t3_29,ht3_29,h⟩ := letS h
      refine AWP.region (.cons (.move (lt1 rfl) (.tmp rfl))<| .cons (.add (lt1 rfl) (.tmp rfl) (.const _ _ _))<| .cons (.move (lt1 rfl) (.tmp rfl))<| .cons (.sub (lt1 rfl) (.tmp rfl) (.const _ _ _))<| .cons (.assign (lt1 rfl) (.tmp rfl))<| .cons (.assign (lt1 rfl) (.tmp rfl))<| ARun.nil _ _ _) ?_
      exact endJ (t2_28,t3_29,l1_27) h (by subst ht2_28 ht3_29; exact VC.sub (.c rfl<| .c rfl<| .c rfl<| .n _) (.c rfl<| .n _))
    · have h := iteF hc h
      refine AWP.exit ?_
      exact endJ x_20.2.2 h (VC.sub (.n _) (.c rfl<| .n _))
theorem c70 {β1 : Bool} {β2 : Bool} {β3 : Bool} (n : Nat) (a0 : R24) (a1 : (List Int)) {r : ((List Int) × Bool)} (h : m70 n a0 a1 = some r) : Spec Try.prog 70 [] [.agg [.rd β1 a0.Points.length (a0.Points.flatMap encR45),.rd β2 a0.Before.length (a0.Before.flatMap encR93)],.rd β3 a1.length (a1.flatMap (encI .i64))] [] (.tup [.rd β3 r.1.length (r.1.flatMap (encI .i64)),.sc (.bool r.2)]) [] := by
  refine Spec.of (fn := Try.f70) Try.func70 Try.ntmps70 rfl rfl (le1 rfl) (fun w0 Zs Zb T0 ι0 => ?_)
  unfold m70 at h
  refine AWP.seq ?_
  refine AWP.region (.cons (.box (t := 1) (n := 2) (lt1 rfl) (nm rfl) (.tmp rfl) (by first | exact ⟨rfl,rfl⟩ | rfl) rfl)<| .cons (.assign (lt1 rfl) (.const _ _ _))<| .cons (.assign (lt1 rfl) (.const _ _ _))<| ARun.nil _ _ _) ?_
  refine AWP.vc (s' := ⟨[(1,.rd β3 a1.length (a1.flatMap (encI .i64))),(2,.ptr 1 0)],[(1,⟨32,false,[.rd β1 a0.Points.length (a0.Points.flatMap encR45),.rd β2 a0.Before.length (a0.Before.flatMap encR93)]⟩)]⟩) (VC.sub (.c rfl<| .c rfl<| .n _) (.c rfl<| .n _)) ?_
  refine AWP.seq ?_
  obtain ⟨y_1,hy_1,h⟩ := bindS h
  refine AWP.region (.cons (.loadPA (lt1 rfl) (.tmp rfl) agg32 rfl rfl rfl rfl)<| .cons (.move (lt1 rfl) (.tmp rfl))<| .cons (.call0 (bw := false) (lt1 rfl) (c68 (β1 := β1) (β2 := β2) (β3 := β3) n (R24.mk a0.Points a0.Before) a1 hy_1) (.cons (.tmp rfl) (.ren rfl) (.cons (.tmp rfl) (.ren rfl) (.nil))) rfl)<| .cons (.assign (lt1 rfl) (.tmp rfl))<| ARun.nil _ _ _) ?_
  refine AWP.vc (s' := ⟨[(1,.rd β3 a1.length (a1.flatMap (encI .i64))),(2,.ptr 1 0),(6,.sc (.int .i64 y_1))],[(1,⟨32,false,[.rd β1 a0.Points.length (a0.Points.flatMap encR45),.rd β2 a0.Before.length (a0.Before.flatMap encR93)]⟩)]⟩) (VC.sub (.c rfl<| .c rfl<| .c rfl<| .n _) (.c rfl<| .n _)) ?_
  refine AWP.seq ?_
  refine AWP.seq ?_
  refine AWP.region (.cons (.assign (lt1 rfl) (.const _ _ _))<| ARun.nil _ _ _) ?_
  refine AWP.vc (s' := ⟨[(1,.rd β3 a1.length (a1.flatMap (encI .i64))),(2,.ptr 1 0),(6,.sc (.int .i64 y_1)),(7,.sc (.int .i64 (1 : Int)))],[(1,⟨32,false,[.rd β1 a0.Points.length (a0.Points.flatMap encR45),.rd β2 a0.Before.length (a0.Before.flatMap encR93)]⟩)]⟩) (VC.sub (.c rfl<| .c rfl<| .c rfl<| .c rfl<| .n _) (.c rfl<| .n _)) ?_
  refine AWP.joinB' (S := fun p_63 : Unit => ⟨[(1,.rd β3 a1.length (a1.flatMap (encI .i64)))],[]⟩) h (fun p_63 h => ?_) (fun k_64 h => ?_)
  · refine AWP.seq ?_
    refine AWP.region (.cons (.move (lt1 rfl) (.tmp rfl))<| .cons (.assign (lt1 rfl) (.tmp rfl))<| .cons (.assign (lt1 rfl) (.const _ _ _))<| ARun.nil _ _ _) ?_
    refine AWP.ret ?_
    obtain rfl := Option.some.inj h
    refine retJ (Res.vc (s' := ⟨[(4,.rd β3 a1.length (a1.flatMap (encI .i64))),(5,.sc (.bool false))],[]⟩) (VC.sub (.c rfl<| .c rfl<| .n _) (.n _)) ?_)
    refine Res.drop (H := []) rfl ?_
    exact Res.of rfl (.cons (.tmp rfl) (.cons (.tmp rfl) (.nil))) rfl rfl
  · refine AWP.vc (s' := ⟨[(1,.rd β3 a1.length (a1.flatMap (encI .i64))),(2,.ptr 1 0),(6,.sc (.int .i64 y_1)),(7,.sc (.int .i64 (1 : Int)))],[(1,⟨32,false,[.rd β1 a0.Points.length (a0.Points.flatMap encR45),.rd β2 a0.Before.length (a0.Before.flatMap encR93)]⟩)]⟩) (VC.sub (.c rfl<| .c rfl<| .c rfl<| .c rfl<| .n _) (.c rfl<| .n _)) ?_
    refine AWP.loopM (S := fun x_32 : Int => ⟨[(1,.rd β3 a1.length (a1.flatMap (encI .i64))),(2,.ptr 1 0),(6,.sc (.int .i64 y_1)),(7,.sc (.int .i64 x_32))],[(1,⟨32,false,[.rd β1 a0.Points.length (a0.Points.flatMap encR45),.rd β2 a0.Before.length (a0.Before.flatMap encR93)]⟩)]⟩) (x := (1 : Int)) (fun nx_33 x_32 h => ?_) h
    unfold m70_L2 at h
    refine AWP.seq ?_
    refine AWP.seq ?_
    refine AWP.region (.cons (.move (lt1 rfl) (.tmp rfl))<| .cons (.move (lt1 rfl) (.tmp rfl))<| .cons (.lenRd (lt1 rfl) (.tmp rfl) Try.underlying28)<| .cons (.lss (lt1 rfl) (.tmp rfl) (.tmp rfl))<| ARun.nil _ _ _) ?_
    refine AWP.vc (s' := ⟨[(1,.rd β3 a1.length (a1.flatMap (encI .i64))),(2,.ptr 1 0),(6,.sc (.int .i64 y_1)),(7,.sc (.int .i64 x_32)),(16,.sc (.bool (decide (x_32 < (a1.length : Int)))))],[(1,⟨32,false,[.rd β1 a0.Points.length (a0.Points.flatMap encR45),.rd β2 a0.Before.length (a0.Before.flatMap encR93)]⟩)]⟩) (VC.sub (.c rfl<| .c rfl<| .c rfl<| .c rfl<| .c rfl<| .n _) (.c rfl<| .n _)) ?_
    refine AWP.cond (.tmp rfl) (fun hc => ?_) (fun hc => ?_)
    · have h := iteT hc h
      refine AWP.skip ?_
      refine AWP.seq ?_
      refine AWP.block ?_
      refine AWP.seq ?_
      obtain ⟨t8_34,ht8_34,h⟩ := letS h
      refine AWP.region (.cons (.move (lt1 rfl) (.tmp rfl))<| .cons (.add (lt1 rfl) (.tmp rfl) (.const _ _ _))<| .cons (.assign (lt1 rfl) (.tmp rfl))<| ARun.nil _ _ _) ?_
      refine AWP.vc (s' := ⟨[(1,.rd β3 a1.length (a1.flatMap (encI .i64))),(2,.ptr 1 0),(6,.sc (.int .i64 y_1)),(7,.sc (.int .i64 x_32)),(8,.sc (.int .i64 t8_34))],[(1,⟨32,false,[.rd β1 a0.Points.length (a0.Points.flatMap encR45),.rd β2 a0.Before.length (a0.Before.flatMap encR93)]⟩)]⟩) (by subst ht8_34; exact VC.sub (.c rfl<| .c rfl<| .c rfl<| .c rfl<| .c rfl<| .n _) (.c rfl<| .n _)) ?_
      refine AWP.joinB' (S := fun p_60 : Unit => ⟨[(1,.rd β3 a1.length (a1.flatMap (encI .i64))),(2,.ptr 1 0),(6,.sc (.int .i64 y_1)),(7,.sc (.int .i64 x_32))],[(1,⟨32,false,[.rd β1 a0.Points.length (a0.Points.flatMap encR45),.rd β2 a0.Before.length (a0.Before.flatMap encR93)]⟩)]⟩) h (fun p_60 h => ?_) (fun k_61 h => ?_)
      · obtain ⟨t7_62,ht7_62,h⟩ := letS h
        refine AWP.region (.cons (.move (lt1 rfl) (.tmp rfl))<| .cons (.add (lt1 rfl) (.tmp rfl) (.const _ _ _))<| .cons (.assign (lt1 rfl) (.tmp rfl))<| ARun.nil _ _ _) ?_
        exact endJ t7_62 h (by subst ht7_62; exact VC.sub (.c rfl<| .c rfl<| .c rfl<| .c rfl<| .n _) (.c rfl<| .n _))
      · refine AWP.vc (s' := ⟨[(1,.rd β3 a1.length (a1.flatMap (encI .i64))),(2,.ptr 1 0),(6,.sc (.int .i64 y_1)),(7,.sc (.int .i64 x_32)),(8,.sc (.int .i64 t8_34))],[(1,⟨32,false,[.rd β1 a0.Points.length (a0.Points.flatMap encR45),.rd β2 a0.Before.length (a0.Before.flatMap encR93)]⟩)]⟩) (VC.sub (.c rfl<| .c rfl<| .c rfl<| .c rfl<| .c rfl<| .n _) (.c rfl<| .n _)) ?_
        refine AWP.loopM (S := fun x_51 : Int => ⟨[(1,.rd β3 a1.length (a1.flatMap (encI .i64))),(2,.ptr 1 0),(6,.sc (.int .i64 y_1)),(7,.sc (.int .i64 x_32)),(8,.sc (.int .i64 x_51))],[(1,⟨32,false,[.rd β1 a0.Points.length (a0.Points.flatMap encR45),.rd β2 a0.Before.length (a0.Before.flatMap encR93)]⟩)]⟩) (x := t8_34) (fun nx_52 x_51 h => ?_) h
        unfold m70_L3 at h
        refine AWP.seq ?_
        refine AWP.seq ?_
        refine AWP.region (.cons (.move (lt1 rfl) (.tmp rfl))<| .cons (.move (lt1 rfl) (.tmp rfl))<| .cons (.lenRd (lt1 rfl) (.tmp rfl) Try.underlying28)<| .cons (.lss (lt1 rfl) (.tmp rfl) (.tmp rfl))<| ARun.nil _ _ _) ?_
        refine AWP.vc (s' := ⟨[(1,.rd β3 a1.length (a1.flatMap (encI .i64))),(2,.ptr 1 0),(6,.sc (.int .i64 y_1)),(7,.sc (.int .i64 x_32)),(8,.sc (.int .i64 x_51)),(24,.sc (.bool (decide (x_51 < (a1.length : Int)))))],[(1,⟨32,false,[.rd β1 a0.Points.length (a0.Points.flatMap encR45),.rd β2 a0.Before.length (a0.Before.flatMap encR93)]⟩)]⟩) (VC.sub (.c rfl<| .c rfl<| .c rfl<| .c rfl<| .c rfl<| .c rfl<| .n _) (.c rfl<| .n _)) ?_
        refine AWP.cond (.tmp rfl) (fun hc => ?_) (fun hc => ?_)
        · have h := iteT hc h
          refine AWP.skip ?_
          refine AWP.seq ?_
          refine AWP.block ?_
          refine AWP.seq ?_
          obtain ⟨y_53,hy_53,h⟩ := bindS h
          refine AWP.region (.cons (.move (lt1 rfl) (.tmp rfl))<| .cons (.call (σ := fun _ => 2) (bw := false) (lt1 rfl) (c63o (β1 := β3) n a1 hy_53) (.cons (.tmp rfl) (.ren rfl) (.nil)) (CallOk.mk' (.n) rfl))<| .cons (.assign (lt1 rfl) (.tmp rfl))<| ARun.nil _ _ _) ?_
          refine AWP.vc (s' := ⟨[(1,.rd β3 a1.length (a1.flatMap (encI .i64))),(2,.ptr 1 0),(6,.sc (.int .i64 y_1)),(7,.sc (.int .i64 x_32)),(8,.sc (.int .i64 x_51)),(9,.own 2 1 0 y_53.length)],[(2,⟨3,true,y_53.flatMap (encI .i64)⟩),(1,⟨32,false,[.rd β1 a0.Points.length (a0.Points.flatMap encR45),.rd β2 a0.Before.length (a0.Before.flatMap encR93)]⟩)]⟩) (VC.sub (.c rfl<| .c rfl<| .c rfl<| .c rfl<| .c rfl<| .c rfl<| .n _) (.c rfl<| .c rfl<| .n _)) ?_
          refine AWP.seq ?_
          obtain ⟨s_54,hs_54,h⟩ := bindS h
          obtain ⟨y_55,hy_55,h⟩ := bindS h
          obtain ⟨ha_56,h⟩ := asrtS h
          refine AWP.region (.cons (.move (lt1 rfl) (.tmp rfl))<| .cons (.move (lt1 rfl) (.tmp rfl))<| .cons (.move (lt1 rfl) (.tmp rfl))<| .cons (.add (lt1 rfl) (.tmp rfl) (.const _ _ _))<| .cons (.slBoth (lt1 rfl) (.tmp rfl) Try.underlying28 sz3 rfl (.some (.tmp rfl)) (.some (.tmp rfl)) hs_54)<| .cons (.call (σ := fun _ => 2) (bw := false) (lt1 rfl) (c95 n y_53 (((IntKind.wrap .i64 (x_51 + (1 : Int)))).toNat - (x_32).toNat) (0 + (x_32).toNat * 1) hy_55) (.cons (.tmp rfl) (.ren rfl) (.nil)) (CallOk.mk' (.c rfl (.n)) rfl))<| ARun.nil _ _ _) ?_
          refine AWP.vc (s' := ⟨[(1,.rd β3 a1.length (a1.flatMap (encI .i64))),(2,.ptr 1 0),(6,.sc (.int .i64 y_1)),(7,.sc (.int .i64 x_32)),(8,.sc (.int .i64 x_51)),(9,.own 2 1 0 y_55.length)],[(2,⟨3,true,y_55.flatMap (encI .i64)⟩),(1,⟨32,false,[.rd β1 a0.Points.length (a0.Points.flatMap encR45),.rd β2 a0.Before.length (a0.Before.flatMap encR93)]⟩)]⟩) (VC.sub (.c rfl<| .c rfl<| .c rfl<| .c rfl<| .c rfl<| .c (lenC (Eq.symm (Eq.symm ha_56)) rfl)<| .n _) (.c rfl<| .c rfl<| .n _)) ?_
          refine AWP.seq ?_
          obtain ⟨y_57,hy_57,h⟩ := bindS h
          obtain ⟨y_58,hy_58,h⟩ := bindS h
          refine AWP.region (.cons (.loadPA (lt1 rfl) (.tmp rfl) agg32 rfl rfl rfl rfl)<| .cons (.move (lt1 rfl) (.tmp rfl))<| .cons (.call0 (bw := true) (lt1 rfl) (c68 (β1 := β1) (β2 := β2) (β3 := true) n (R24.mk a0.Points a0.Before) y_55 hy_57) (.cons (.tmp rfl) (.ren rfl) (.cons (.tmp rfl) (.lendRow rfl rfl (encI_len .i64) rfl) (.nil))) rfl)<| .cons (.move (lt1 rfl) (.tmp rfl))<| .cons (.lss (lt1 rfl) (.tmp rfl) (.tmp rfl))<| .cons (.move (lt1 rfl) (.tmp rfl))<| .guard (j := 5) (dj := 40) rfl (lt1 rfl) rfl (lt1 rfl) (fun hg => .loadPA (lt1 rfl) (.tmp rfl) agg32 rfl rfl rfl rfl)<| .guard (j := 5) (dj := 40) rfl (lt1 rfl) rfl (lt1 rfl) (fun hg => .move (lt1 rfl) (.tmp rfl))<| .guard (j := 5) (dj := 40) rfl (lt1 rfl) rfl (lt1 rfl) (fun hg => .call0 (bw := true) (lt1 rfl) (c67 (β1 := β1) (β2 := β2) (β3 := true) n (R24.mk a0.Points a0.Before) y_55 (gdB hy_58 hg)) (.cons (.gd hg (.tmp rfl)) (.ren rfl) (.cons (.gd hg (.tmp rfl)) (.lendRow rfl rfl (encI_len .i64) rfl) (.nil))) rfl)<| .cons (.pickAnd (lt1 rfl) (.tmp rfl) (.tmp rfl) (.const _ _ _))<| ARun.nil _ _ _) ?_
          refine AWP.vc (s' := ⟨[(1,.rd β3 a1.length (a1.flatMap (encI .i64))),(2,.ptr 1 0),(6,.sc (.int .i64 y_1)),(7,.sc (.int .i64 x_32)),(8,.sc (.int .i64 x_51)),(9,.own 2 1 0 y_55.length),(44,.sc (.bool ((decide (y_57 < y_1)) && y_58)))],[(2,⟨3,true,y_55.flatMap (encI .i64)⟩),(1,⟨32,false,[.rd β1 a0.Points.length (a0.Points.flatMap encR45),.rd β2 a0.Before.length (a0.Before.flatMap encR93)]⟩)]⟩) (VC.sub (.c rfl<| .c rfl<| .c rfl<| .c rfl<| .c rfl<| .c rfl<| .c rfl<| .n _) (.c rfl<| .c rfl<| .n _)) ?_
          refine AWP.cond (.tmp rfl) (fun hc => ?_) (fun hc => ?_)
          · have h := iteT hc h
            refine AWP.seq ?_
            refine AWP.region (.cons (.move (lt1 rfl) (.tmp rfl))<| .cons (.assign (lt1 rfl) (.tmp rfl))<| .cons (.assign (lt1 rfl) (.const _ _ _))<| ARun.nil _ _ _) ?_
            refine AWP.ret ?_
            obtain rfl := Option.some.inj h
            refine retJ (Res.vc (s' := ⟨[(4,.rd β3 y_55.length (y_55.flatMap (encI .i64))),(5,.sc (.bool true))],[]⟩) (VC.trans (VC.frz (d := 4) (t := 2) rfl rfl (encI_len .i64)) (VC.trans (VC.flagUp (d := 4) β3 rfl) (VC.sub (.c rfl<| .c rfl<| .n _) (.n _)))) ?_)
            refine Res.drop (H := []) rfl ?_
            exact Res.of rfl (.cons (.tmp rfl) (.cons (.tmp rfl) (.nil))) rfl rfl
          · have h := iteF hc h
            refine AWP.skip ?_
            obtain ⟨t8_59,ht8_59,h⟩ := letS h
            refine AWP.region (.cons (.move (lt1 rfl) (.tmp rfl))<| .cons (.add (lt1 rfl) (.tmp rfl) (.const _ _ _))<| .cons (.assign (lt1 rfl) (.tmp rfl))<| ARun.nil _ _ _) ?_
            exact endJ t8_59 h (by subst ht8_59; exact VC.sub (.c rfl<| .c rfl<| .c rfl<| .c rfl<| .c rfl<| .n _) (.c rfl<| .n _))
        · have h := iteF hc h
          refine AWP.exit ?_
          exact endJ () h (VC.sub (.c rfl<| .c rfl<| .c rfl<| .c rfl<| .n _) (.c rfl<| .n _))
    · have h := iteF hc h
      refine AWP.exit ?_
      exact endJ () h (VC.sub (.c rfl<| .n _) (.n _))
theorem c33 {β1 : Bool} {β2 : Bool} {β3 : Bool} (n : Nat) (a0 : R24) (a1 : (List Int)) {r : ((List Int) × Int)} (h : m33 n a0 a1 = some r) : Spec Try.prog 33 [] [.agg [.rd β1 a0.Points.length (a0.Points.flatMap encR45),.rd β2 a0.Before.length (a0.Before.flatMap encR93)],.rd β3 a1.length (a1.flatMap (encI .i64))] [] (.tup [.rd false r.1.length (r.1.flatMap (encI .i64)),.sc (.int .i64 r.2)]) [] := by
  refine Spec.of (fn := Try.f33) Try.func33 Try.ntmps33 rfl rfl (le1 rfl) (fun w0 Zs Zb T0 ι0 => ?_)
  unfold m33 at h
  refine AWP.seq ?_
  refine AWP.region (.cons (.box (t := 1) (n := 2) (lt1 rfl) (nm rfl) (.tmp rfl) (by first | exact ⟨rfl,rfl⟩ | rfl) rfl)<| .cons (.assign (lt1 rfl) (.const _ _ _))<| .cons (.assign (lt1 rfl) (.const _ _ _))<| ARun.nil _ _ _) ?_
  refine AWP.vc (s' := ⟨[(1,.rd β3 a1.length (a1.flatMap (encI .i64))),(2,.ptr 1 0)],[(1,⟨32,false,[.rd β1 a0.Points.length (a0.Points.flatMap encR45),.rd β2 a0.Before.length (a0.Before.flatMap encR93)]⟩)]⟩) (VC.sub (.c rfl<| .c rfl<| .n _) (.c rfl<| .n _)) ?_
  refine AWP.seq ?_
  refine AWP.block ?_
  refine AWP.seq ?_
  obtain ⟨y_1,hy_1,h⟩ := bindS h
  refine AWP.region (.cons (.loadPA (lt1 rfl) (.tmp rfl) agg32 rfl rfl rfl rfl)<| .cons (.call0 (bw := false) (lt1 rfl) (c22 (β1 := β1) (β2 := β2) n (R24.mk a0.Points a0.Before) hy_1) (.cons (.tmp rfl) (.ren rfl) (.nil)) rfl)<| .cons (.not (lt1 rfl) (.tmp rfl))<| .cons (.assign (lt1 rfl) (.tmp rfl))<| ARun.nil _ _ _) ?_
  refine AWP.vc (s' := ⟨[(1,.rd β3 a1.length (a1.flatMap (encI .i64))),(2,.ptr 1 0),(8,.sc (.bool (!y_1)))],[(1,⟨32,false,[.rd β1 a0.Points.length (a0.Points.flatMap encR45),.rd β2 a0.Before.length (a0.Before.flatMap encR93)]⟩)]⟩) (VC.sub (.c rfl<| .c rfl<| .c rfl<| .n _) (.c rfl<| .n _)) ?_
  refine AWP.cond (.tmp rfl) (fun hc => ?_) (fun hc => ?_)
  · have h := iteT hc h
    refine AWP.seq ?_
    refine AWP.region (.cons (.assign (lt1 rfl) (.const _ _ _))<| .cons (.assign (lt1 rfl) (.const _ _ _))<| ARun.nil _ _ _) ?_
    refine AWP.ret ?_
    obtain rfl := Option.some.inj h
    refine retJ (Res.vc (s' := ⟨[(4,.rd false ([] : List Int).length (([] : List Int).flatMap (encI .i64))),(5,.sc (.int .i64 (1 : Int)))],[]⟩) (VC.trans (VC.nilRd (d := 4) false rfl) (VC.sub (.c rfl<| .c rfl<| .n _) (.n _))) ?_)
    refine Res.drop (H := []) rfl ?_
    exact Res.of rfl (.cons (.tmp rfl) (.cons (.tmp rfl) (.nil))) rfl rfl
  · have h := iteF hc h
    refine AWP.seq ?_
    obtain ⟨y_2,hy_2,h⟩ := bindS h
    refine AWP.region (.cons (.loadPA (lt1 rfl) (.tmp rfl) agg32 rfl rfl rfl rfl)<| .cons (.move (lt1 rfl) (.tmp rfl))<| .cons (.call0 (bw := false) (lt1 rfl) (c67 (β1 := β1) (β2 := β2) (β3 := β3) n (R24.mk a0.Points a0.Before) a1 hy_2) (.cons (.tmp rfl) (.ren rfl) (.cons (.tmp rfl) (.ren rfl) (.nil))) rfl)<| .cons (.not (lt1 rfl) (.tmp rfl))<| .cons (.assign (lt1 rfl) (.tmp rfl))<| ARun.nil _ _ _) ?_
    refine AWP.vc (s' := ⟨[(1,.rd β3 a1.length (a1.flatMap (encI .i64))),(2,.ptr 1 0),(12,.sc (.bool (!y_2)))],[(1,⟨32,false,[.rd β1 a0.Points.length (a0.Points.flatMap encR45),.rd β2 a0.Before.length (a0.Before.flatMap encR93)]⟩)]⟩) (VC.sub (.c rfl<| .c rfl<| .c rfl<| .n _) (.c rfl<| .n _)) ?_
    refine AWP.cond (.tmp rfl) (fun hc => ?_) (fun hc => ?_)
    · have h := iteT hc h
      refine AWP.seq ?_
      refine AWP.region (.cons (.assign (lt1 rfl) (.const _ _ _))<| .cons (.assign (lt1 rfl) (.const _ _ _))<| ARun.nil _ _ _) ?_
      refine AWP.ret ?_
      obtain rfl := Option.some.inj h
      refine retJ (Res.vc (s' := ⟨[(4,.rd false ([] : List Int).length (([] : List Int).flatMap (encI .i64))),(5,.sc (.int .i64 (22 : Int)))],[]⟩) (VC.trans (VC.nilRd (d := 4) false rfl) (VC.sub (.c rfl<| .c rfl<| .n _) (.n _))) ?_)
      refine Res.drop (H := []) rfl ?_
      exact Res.of rfl (.cons (.tmp rfl) (.cons (.tmp rfl) (.nil))) rfl rfl
    · have h := iteF hc h
      refine AWP.skip ?_
      refine AWP.seq ?_
      obtain ⟨y_3,hy_3,h⟩ := bindS h
      refine AWP.region (.cons (.move (lt1 rfl) (.tmp rfl))<| .cons (.call0 (bw := false) (lt1 rfl) (c63 (β1 := β3) n a1 hy_3) (.cons (.tmp rfl) (.ren rfl) (.nil)) rfl)<| .cons (.assign (lt1 rfl) (.tmp rfl))<| ARun.nil _ _ _) ?_
      refine AWP.vc (s' := ⟨[(2,.ptr 1 0),(6,.rd false y_3.length (y_3.flatMap (encI .i64)))],[(1,⟨32,false,[.rd β1 a0.Points.length (a0.Points.flatMap encR45),.rd β2 a0.Before.length (a0.Before.flatMap encR93)]⟩)]⟩) (VC.sub (.c rfl<| .c rfl<| .n _) (.c rfl<| .n _)) ?_
      refine AWP.seq ?_
      refine AWP.seq ?_
      refine AWP.region (.cons (.assign (lt1 rfl) (.const _ _ _))<| ARun.nil _ _ _) ?_
      refine AWP.vc (s' := ⟨[(2,.ptr 1 0),(6,.rd false y_3.length (y_3.flatMap (encI .i64))),(7,.sc (.bool true))],[(1,⟨32,false,[.rd β1 a0.Points.length (a0.Points.flatMap encR45),.rd β2 a0.Before.length (a0.Before.flatMap encR93)]⟩)]⟩) (VC.sub (.c rfl<| .c rfl<| .c rfl<| .n _) (.c rfl<| .n _)) ?_
      refine AWP.joinB' (S := fun p_11 : (List Int) => ⟨[(6,.rd false p_11.length (p_11.flatMap (encI .i64)))],[]⟩) h (fun p_11 h => ?_) (fun k_12 h => ?_)
      · refine AWP.seq ?_
        refine AWP.region (.cons (.move (lt1 rfl) (.tmp rfl))<| .cons (.assign (lt1 rfl) (.tmp rfl))<| .cons (.assign (lt1 rfl) (.const _ _ _))<| ARun.nil _ _ _) ?_
        refine AWP.ret ?_
        obtain rfl := Option.some.inj h
        refine retJ (Res.vc (s' := ⟨[(4,.rd false p_11.length (p_11.flatMap (encI .i64))),(5,.sc (.int .i64 (0 : Int)))],[]⟩) (VC.sub (.c rfl<| .c rfl<| .n _) (.n _)) ?_)
        refine Res.drop (H := []) rfl ?_
        exact Res.of rfl (.cons (.tmp rfl) (.cons (.tmp rfl) (.nil))) rfl rfl
      · refine AWP.vc (s' := ⟨[(2,.ptr 1 0),(6,.rd false y_3.length (y_3.flatMap (encI .i64))),(7,.sc (.bool true))],[(1,⟨32,false,[.rd β1 a0.Points.length (a0.Points.flatMap encR45),.rd β2 a0.Before.length (a0.Before.flatMap encR93)]⟩)]⟩) (VC.sub (.c rfl<| .c rfl<| .c rfl<| .n _) (.c rfl<| .n _)) ?_
        refine AWP.loopM (S := fun x_8 : (List Int) × Bool => ⟨[(2,.ptr 1 0),(6,.rd false x_8.1.length (x_8.1.flatMap (encI .i64))),(7,.sc (.bool x_8.2))],[(1,⟨32,false,[.rd β1 a0.Points.length (a0.Points.flatMap encR45),.rd β2 a0.Before.length (a0.Before.flatMap encR93)]⟩)]⟩) (x := (y_3,true)) (fun nx_9 x_8 h => ?_) h
        unfold m33_L1 at h
        refine AWP.seq ?_
        refine AWP.seq ?_
        refine AWP.region (.cons (.move (lt1 rfl) (.tmp rfl))<| ARun.nil _ _ _) ?_
        refine AWP.vc (s' := ⟨[(2,.ptr 1 0),(6,.rd false x_8.1.length (x_8.1.flatMap (encI .i64))),(19,.sc (.bool x_8.2))],[(1,⟨32,false,[.rd β1 a0.Points.length (a0.Points.flatMap encR45),.rd β2 a0.Before.length (a0.Before.flatMap encR93)]⟩)]⟩) (VC.sub (.c rfl<| .c rfl<| .c rfl<| .n _) (.c rfl<| .n _)) ?_
        refine AWP.cond (.tmp rfl) (fun hc => ?_) (fun hc => ?_)
        · have h := iteT hc h
          refine AWP.skip ?_
          refine AWP.block ?_
          obtain ⟨y_10,hy_10,h⟩ := bindS h
          refine AWP.region (.cons (.loadPA (lt1 rfl) (.tmp rfl) agg32 rfl rfl rfl rfl)<| .cons (.move (lt1 rfl) (.tmp rfl))<| .cons (.call0 (bw := false) (lt1 rfl) (c70 (β1 := β1) (β2 := β2) (β3 := false) n (R24.mk a0.Points a0.Before) x_8.1 hy_10) (.cons (.tmp rfl) (.ren rfl) (.cons (.tmp rfl) (.ren rfl) (.nil))) rfl)<| .cons (.move (lt1 rfl) (.tmp rfl))<| .cons (.extract (lt1 rfl) (.tmp rfl) rfl)<| .cons (.extract (lt1 rfl) (.tmp rfl) rfl)<| .cons (.assign (lt1 rfl) (.tmp rfl))<| .cons (.assign (lt1 rfl) (.tmp rfl))<| ARun.nil _ _ _) ?_
          exact endJ (y_10.1,y_10.2) h (VC.sub (.c rfl<| .c rfl<| .c rfl<| .n _) (.c rfl<| .n _))
        · have h := iteF hc h
          refine AWP.exit ?_
          exact endJ x_8.1 h (VC.sub (.c rfl<| .n _) (.n _))
theorem c96 {β1 : Bool} (n : Nat) (a0 : (List Int)) (a1 : Int) (a2 : Int) {r : (List Int)} (h : m96 n a0 a1 a2 = some r) : Spec Try.prog 96 [] [.rd β1 a0.length (a0.flatMap (encI .i64)),.sc (.int .i64 a1),.sc (.int .i64 a2)] [] (.rd false r.length (r.flatMap (encI .i64))) [] := by
  refine Spec.of (fn := Try.f96) Try.func96 Try.ntmps96 rfl rfl (le1 rfl) (fun w0 Zs Zb T0 ι0 => ?_)
  unfold m96 at h
  refine AWP.seq ?_
  refine AWP.region (.cons (.assign (lt1 rfl) (.const _ _ _))<| ARun.nil _ _ _) ?_
  refine AWP.vc (s' := ⟨[(0,.rd β1 a0.length (a0.flatMap (encI .i64))),(1,.sc (.int .i64 a1)),(2,.sc (.int .i64 a2))],[]⟩) (VC.sub (.c rfl<| .c rfl<| .c rfl<| .n _) (.n _)) ?_
  refine AWP.seq ?_
  obtain ⟨l1_1,hl1_1,h⟩ := bindS h
  refine AWP.region (.cons (.buildSlice (t := 1) (out := ([] : List Int).flatMap (encI .i64)) (lt1 rfl) (nm rfl) (.nil) Try.underlying28 zero3 el3 (by decide) (by decide) rfl (still_all (encI_still .i64) _))<| .cons (.move (lt1 rfl) (.tmp rfl))<| .cons (.app (enc := (encI .i64)) (lt1 rfl) (nm rfl) (.tmp rfl) (Src.rd (.tmp rfl) (flatMap_length (encI_len .i64) _) (one_all (encI_one .i64) _) (.inr (scal_all (encI_scal .i64) _))) Try.underlying28 ⟨_,Try.underlying28,by intro k hk; cases hk⟩ el3 rfl (encI_len .i64) rfl rfl (by decide) hl1_1)<| .cons (.assign (lt1 rfl) (.tmp rfl))<| ARun.nil _ _ _) ?_
  refine AWP.vc (s' := ⟨[(0,.rd β1 a0.length (a0.flatMap (encI .i64))),(1,.sc (.int .i64 a1)),(2,.sc (.int .i64 a2)),(7,.own 1 1 0 l1_1.length)],[(1,⟨3,true,l1_1.flatMap (encI .i64)⟩)]⟩) (VC.sub (.c rfl<| .c rfl<| .c rfl<| .c rfl<| .n _) (.c rfl<| .n _)) ?_
  refine AWP.seq ?_
  refine AWP.seq ?_
  refine AWP.region (.cons (.move (lt1 rfl) (.tmp rfl))<| .cons (.assign (lt1 rfl) (.tmp rfl))<| ARun.nil _ _ _) ?_
  refine AWP.vc (s' := ⟨[(0,.rd β1 a0.length (a0.flatMap (encI .i64))),(1,.sc (.int .i64 a1)),(2,.sc (.int .i64 a2)),(7,.own 1 1 0 l1_1.length),(8,.sc (.int .i64 a1))],[(1,⟨3,true,l1_1.flatMap (encI .i64)⟩)]⟩) (VC.sub (.c rfl<| .c rfl<| .c rfl<| .c rfl<| .c rfl<| .n _) (.c rfl<| .n _)) ?_
  refine AWP.joinB' (S := fun p_18 : (List Int) => ⟨[(7,.own 1 1 0 p_18.length)],[(1,⟨3,true,p_18.flatMap (encI .i64)⟩)]⟩) h (fun p_18 h => ?_) (fun k_19 h => ?_)
  · refine AWP.seq ?_
    refine AWP.region (.cons (.move (lt1 rfl) (.tmp rfl))<| .cons (.assign (lt1 rfl) (.tmp rfl))<| ARun.nil _ _ _) ?_
    refine AWP.ret ?_
    obtain rfl := Option.some.inj h
    refine retJ (Res.vc (s' := ⟨[(6,.rd false p_18.length (p_18.flatMap (encI .i64)))],[]⟩) (VC.trans (VC.frz (d := 6) (t := 1) rfl rfl (encI_len .i64)) (VC.sub (.c rfl<| .n _) (.n _))) ?_)
    refine Res.drop (H := []) rfl ?_
    exact Res.of rfl (.cons (.tmp rfl) (.nil)) rfl rfl
  · refine AWP.vc (s' := ⟨[(0,.rd β1 a0.length (a0.flatMap (encI .i64))),(1,.sc (.int .i64 a1)),(2,.sc (.int .i64 a2)),(7,.own 1 1 0 l1_1.length),(8,.sc (.int .i64 a1))],[(1,⟨3,true,l1_1.flatMap (encI .i64)⟩)]⟩) (VC.sub (.c rfl<| .c rfl<| .c rfl<| .c rfl<| .c rfl<| .n _) (.c rfl<| .n _)) ?_
    refine AWP.loopM (S := fun x_12 : Int × (List Int) => ⟨[(0,.rd β1 a0.length (a0.flatMap (encI .i64))),(1,.sc (.int .i64 a1)),(2,.sc (.int .i64 a2)),(7,.own 1 1 0 x_12.2.length),(8,.sc (.int .i64 x_12.1))],[(1,⟨3,true,x_12.2.flatMap (encI .i64)⟩)]⟩) (x := (a1,l1_1)) (fun nx_13 x_12 h => ?_) h
    unfold m96_L1 at h
    refine AWP.seq ?_
    refine AWP.seq ?_
    refine AWP.region (.cons (.move (lt1 rfl) (.tmp rfl))<| .cons (.move (lt1 rfl) (.tmp rfl))<| .cons (.leq (lt1 rfl) (.tmp rfl) (.tmp rfl))<| ARun.nil _ _ _) ?_
    refine AWP.vc (s' := ⟨[(0,.rd β1 a0.length (a0.flatMap (encI .i64))),(1,.sc (.int .i64 a1)),(2,.sc (.int .i64 a2)),(7,.own 1 1 0 x_12.2.length),(8,.sc (.int .i64 x_12.1)),(15,.sc (.bool (decide (x_12.1 ≤ a2))))],[(1,⟨3,true,x_12.2.flatMap (encI .i64)⟩)]⟩) (VC.sub (.c rfl<| .c rfl<| .c rfl<| .c rfl<| .c rfl<| .c rfl<| .n _) (.c rfl<| .n _)) ?_
    refine AWP.cond (.tmp rfl) (fun hc => ?_) (fun hc => ?_)
    · have h := iteT hc h
      refine AWP.skip ?_
      refine AWP.seq ?_
      refine AWP.block ?_
      obtain ⟨y_14,hy_14,h⟩ := bindS h
      obtain ⟨y_15,hy_15,h⟩ := bindS h
      obtain ⟨l1_16,hl1_16,h⟩ := bindS h
      refine AWP.region (.cons (.move (lt1 rfl) (.tmp rfl))<| .cons (.move (lt1 rfl) (.tmp rfl))<| .cons (.move (lt1 rfl) (.tmp rfl))<| .cons (.move (lt1 rfl) (.tmp rfl))<| .cons (.move (lt1 rfl) (.tmp rfl))<| .cons (.add (lt1 rfl) (.tmp rfl) (.tmp rfl))<| .cons (.move (lt1 rfl) (.tmp rfl))<| .cons (.sub (lt1 rfl) (.tmp rfl) (.tmp rfl))<| .cons (.indexRd (enc := (encI .i64)) (lt1 rfl) (.tmp rfl) (.tmp rfl) Try.underlying28 sz3 (encI_len .i64) rfl hy_14)<| .cons (.loadR (v := .sc (.int .i64 y_14)) (lt1 rfl) (.tmp rfl) one3 rfl)<| .cons (.idxOwn (lt1 rfl) (.tmp rfl) (.tmp rfl) Try.underlying28 sz3 rfl hy_15)<| .cons (.storeP (.tmp rfl) (.tmp rfl) sz3 rfl (lt_at1 (encI_len .i64) hy_15) rfl (fun _ => rfl) (set_at1 (encI_len .i64) hl1_16 rfl))<| ARun.nil _ _ _) ?_
      refine AWP.vc (s' := ⟨[(0,.rd β1 a0.length (a0.flatMap (encI .i64))),(1,.sc (.int .i64 a1)),(2,.sc (.int .i64 a2)),(7,.own 1 1 0 l1_16.length),(8,.sc (.int .i64 x_12.1))],[(1,⟨3,true,l1_16.flatMap (encI .i64)⟩)]⟩) (VC.sub (.c rfl<| .c rfl<| .c rfl<| .c (lenC (Eq.symm (setLen hl1_16)) rfl)<| .c rfl<| .n _) (.c rfl<| .n _)) ?_
      obtain ⟨t8_17,ht8_17,h⟩ := letS h
      refine AWP.region (.cons (.move (lt1 rfl) (.tmp rfl))<| .cons (.add (lt1 rfl) (.tmp rfl) (.const _ _ _))<| .cons (.assign (lt1 rfl) (.tmp rfl))<| ARun.nil _ _ _) ?_
      exact endJ (t8_17,l1_16) h (by subst ht8_17; exact VC.sub (.c rfl<| .c rfl<| .c rfl<| .c rfl<| .c rfl<| .n _) (.c rfl<| .n _))
    · have h := iteF hc h
      refine AWP.exit ?_
      exact endJ x_12.2 h (VC.sub (.c rfl<| .n _) (.c rfl<| .n _))
theorem c71 {β1 : Bool} {β2 : Bool} {β3 : Bool} (n : Nat) (a0 : R24) (a1 : (List Int)) {r : ((List Int) × Bool)} (h : m71 n a0 a1 = some r) : Spec Try.prog 71 [] [.agg [.rd β1 a0.Points.length (a0.Points.flatMap encR45),.rd β2 a0.Before.length (a0.Before.flatMap encR93)],.rd β3 a1.length (a1.flatMap (encI .i64))] [] (.tup [.rd false r.1.length (r.1.flatMap (encI .i64)),.sc (.bool r.2)]) [] := by
  refine Spec.of (fn := Try.f71) Try.func71 Try.ntmps71 rfl rfl (le1 rfl) (fun w0 Zs Zb T0 ι0 => ?_)
  unfold m71 at h
  refine AWP.seq ?_
  refine AWP.region (.cons (.box (t := 1) (n := 2) (lt1 rfl) (nm rfl) (.tmp rfl) (by first | exact ⟨rfl,rfl⟩ | rfl) rfl)<| .cons (.assign (lt1 rfl) (.const _ _ _))<| .cons (.assign (lt1 rfl) (.const _ _ _))<| ARun.nil _ _ _) ?_
  refine AWP.vc (s' := ⟨[(1,.rd β3 a1.length (a1.flatMap (encI .i64))),(2,.ptr 1 0)],[(1,⟨25,false,[.rd β1 a0.Points.length (a0.Points.flatMap encR45),.rd β2 a0.Before.length (a0.Before.flatMap encR93)]⟩)]⟩) (VC.sub (.c rfl<| .c rfl<| .n _) (.c rfl<| .n _)) ?_
  refine AWP.seq ?_
  refine AWP.seq ?_
  refine AWP.region (.cons (.assign (lt1 rfl) (.const _ _ _))<| ARun.nil _ _ _) ?_
  refine AWP.vc (s' := ⟨[(1,.rd β3 a1.length (a1.flatMap (encI .i64))),(2,.ptr 1 0),(6,.sc (.int .i64 (1 : Int)))],[(1,⟨25,false,[.rd β1 a0.Points.length (a0.Points.flatMap encR45),.rd β2 a0.Before.length (a0.Before.flatMap encR93)]⟩)]⟩) (VC.sub (.c rfl<| .c rfl<| .c rfl<| .n _) (.c rfl<| .n _)) ?_
  refine AWP.joinB' (S := fun p_50 : Unit => ⟨[],[]⟩) h (fun p_50 h => ?_) (fun k_51 h => ?_)
  · refine AWP.seq ?_
    refine AWP.region (.cons (.assign (lt1 rfl) (.const _ _ _))<| .cons (.assign (lt1 rfl) (.const _ _ _))<| ARun.nil _ _ _) ?_
    refine AWP.ret ?_
    obtain rfl := Option.some.inj h
    refine retJ (Res.vc (s' := ⟨[(4,.rd false ([] : List Int).length (([] : List Int).flatMap (encI .i64))),(5,.sc (.bool false))],[]⟩) (VC.trans (VC.nilRd (d := 4) false rfl) (VC.sub (.c rfl<| .c rfl<| .n _) (.n _))) ?_)
    refine Res.drop (H := []) rfl ?_
    exact Res.of rfl (.cons (.tmp rfl) (.cons (.tmp rfl) (.nil))) rfl rfl
  · refine AWP.vc (s' := ⟨[(1,.rd β3 a1.length (a1.flatMap (encI .i64))),(2,.ptr 1 0),(6,.sc (.int .i64 (1 : Int)))],[(1,⟨25,false,[.rd β1 a0.Points.length (a0.Points.flatMap encR45),.rd β2 a0.Before.length (a0.Before.flatMap encR93)]⟩)]⟩) (VC.sub (.c rfl<| .c rfl<| .c rfl<| .n _) (.c rfl<| .n _)) ?_
    refine AWP.loopM (S := fun x_25 : Int => ⟨[(1,.rd β3 a1.length (a1.flatMap (encI .i64))),(2,.ptr 1 0),(6,.sc (.int .i64 x_25))],[(1,⟨25,false,[.rd β1 a0.Points.length (a0.Points.flatMap encR45),.rd β2 a0.Before.length (a0.Before.flatMap encR93)]⟩)]⟩) (x := (1 : Int)) (fun nx_26 x_25 h => ?_) h
    unfold m71_L2 at h
    refine AWP.seq ?_
    refine AWP.seq ?_
    refine AWP.region (.cons (.move (lt1 rfl) (.tmp rfl))<| .cons (.move (lt1 rfl) (.tmp rfl))<| .cons (.lenRd (lt1 rfl) (.tmp rfl) Try.underlying28)<| .cons (.lss (lt1 rfl) (.tmp rfl) (.tmp rfl))<| ARun.nil _ _ _) ?_
    refine AWP.vc (s' := ⟨[(1,.rd β3 a1.length (a1.flatMap (encI .i64))),(2,.ptr 1 0),(6,.sc (.int .i64 x_25)),(12,.sc (.bool (decide (x_25 < (a1.length : Int)))))],[(1,⟨25,false,[.rd β1 a0.Points.length (a0.Points.flatMap encR45),.rd β2 a0.Before.length (a0.Before.flatMap encR93)]⟩)]⟩) (VC.sub (.c rfl<| .c rfl<| .c rfl<| .c rfl<| .n _) (.c rfl<| .n _)) ?_
    refine AWP.cond (.tmp rfl) (fun hc => ?_) (fun hc => ?_)
    · have h := iteT hc h
      refine AWP.skip ?_
      refine AWP.seq ?_
      refine AWP.block ?_
      refine AWP.seq ?_
      obtain ⟨t7_27,ht7_27,h⟩ := letS h
      refine AWP.region (.cons (.move (lt1 rfl) (.tmp rfl))<| .cons (.add (lt1 rfl) (.tmp rfl) (.const _ _ _))<| .cons (.assign (lt1 rfl) (.tmp rfl))<| ARun.nil _ _ _) ?_
      refine AWP.vc (s' := ⟨[(1,.rd β3 a1.length (a1.flatMap (encI .i64))),(2,.ptr 1 0),(6,.sc (.int .i64 x_25)),(7,.sc (.int .i64 t7_27))],[(1,⟨25,false,[.rd β1 a0.Points.length (a0.Points.flatMap encR45),.rd β2 a0.Before.length (a0.Before.flatMap encR93)]⟩)]⟩) (by subst ht7_27; exact VC.sub (.c rfl<| .c rfl<| .c rfl<| .c rfl<| .n _) (.c rfl<| .n _)) ?_
      refine AWP.joinB' (S := fun p_47 : Unit => ⟨[(1,.rd β3 a1.length (a1.flatMap (encI .i64))),(2,.ptr 1 0),(6,.sc (.int .i64 x_25))],[(1,⟨25,false,[.rd β1 a0.Points.length (a0.Points.flatMap encR45),.rd β2 a0.Before.length (a0.Before.flatMap encR93)]⟩)]⟩) h (fun p_47 h => ?_) (fun k_48 h => ?_)
      · obtain ⟨t6_49,ht6_49,h⟩ := letS h
        refine AWP.region (.cons (.move (lt1 rfl) (.tmp rfl))<| .cons (.add (lt1 rfl) (.tmp rfl) (.const _ _ _))<| .cons (.assign (lt1 rfl) (.tmp rfl))<| ARun.nil _ _ _) ?_
        exact endJ t6_49 h (by subst ht6_49; exact VC.sub (.c rfl<| .c rfl<| .c rfl<| .n _) (.c rfl<| .n _))
      · refine AWP.vc (s' := ⟨[(1,.rd β3 a1.length (a1.flatMap (encI .i64))),(2,.ptr 1 0),(6,.sc (.int .i64 x_25)),(7,.sc (.int .i64 t7_27))],[(1,⟨25,false,[.rd β1 a0.Points.length (a0.Points.flatMap encR45),.rd β2 a0.Before.length (a0.Before.flatMap encR93)]⟩)]⟩) (VC.sub (.c rfl<| .c rfl<| .c rfl<| .c rfl<| .n _) (.c rfl<| .n _)) ?_
        refine AWP.loopM (S := fun x_40 : Int => ⟨[(1,.rd β3 a1.length (a1.flatMap (encI .i64))),(2,.ptr 1 0),(6,.sc (.int .i64 x_25)),(7,.sc (.int .i64 x_40))],[(1,⟨25,false,[.rd β1 a0.Points.length (a0.Points.flatMap encR45),.rd β2 a0.Before.length (a0.Before.flatMap encR93)]⟩)]⟩) (x := t7_27) (fun nx_41 x_40 h => ?_) h
        unfold m71_L3 at h
        refine AWP.seq ?_
        refine AWP.seq ?_
        refine AWP.region (.cons (.move (lt1 rfl) (.tmp rfl))<| .cons (.move (lt1 rfl) (.tmp rfl))<| .cons (.lenRd (lt1 rfl) (.tmp rfl) Try.underlying28)<| .cons (.lss (lt1 rfl) (.tmp rfl) (.tmp rfl))<| ARun.nil _ _ _) ?_
        refine AWP.vc (s' := ⟨[(1,.rd β3 a1.length (a1.flatMap (encI .i64))),(2,.ptr 1 0),(6,.sc (.int .i64 x_25)),(7,.sc (.int .i64 x_40)),(20,.sc (.bool (decide (x_40 < (a1.length : Int)))))],[(1,⟨25,false,[.rd β1 a0.Points.length (a0.Points.flatMap encR45),.rd β2 a0.Before.length (a0.Before.flatMap encR93)]⟩)]⟩) (VC.sub (.c rfl<| .c rfl<| .c rfl<| .c rfl<| .c rfl<| .n _) (.c rfl<| .n _)) ?_
        refine AWP.cond (.tmp rfl) (fun hc => ?_) (fun hc => ?_)
        · have h := iteT hc h
          refine AWP.skip ?_
          refine AWP.seq ?_
          refine AWP.block ?_
          refine AWP.seq ?_
          obtain ⟨y_42,hy_42,h⟩ := bindS h
          refine AWP.region (.cons (.move (lt1 rfl) (.tmp rfl))<| .cons (.move (lt1 rfl) (.tmp rfl))<| .cons (.move (lt1 rfl) (.tmp rfl))<| .cons (.call0 (bw := false) (lt1 rfl) (c96 (β1 := β3) n a1 x_25 x_40 hy_42) (.cons (.tmp rfl) (.ren rfl) (.cons (.tmp rfl) (.ren rfl) (.cons (.tmp rfl) (.ren rfl) (.nil)))) rfl)<| .cons (.assign (lt1 rfl) (.tmp rfl))<| ARun.nil _ _ _) ?_
          refine AWP.vc (s' := ⟨[(1,.rd β3 a1.length (a1.flatMap (encI .i64))),(2,.ptr 1 0),(6,.sc (.int .i64 x_25)),(7,.sc (.int .i64 x_40)),(8,.rd false y_42.length (y_42.flatMap (encI .i64)))],[(1,⟨25,false,[.rd β1 a0.Points.length (a0.Points.flatMap encR45),.rd β2 a0.Before.length (a0.Before.flatMap encR93)]⟩)]⟩) (VC.sub (.c rfl<| .c rfl<| .c rfl<| .c rfl<| .c rfl<| .n _) (.c rfl<| .n _)) ?_
          refine AWP.seq ?_
          obtain ⟨y_43,hy_43,h⟩ := bindS h
          obtain ⟨y_44,hy_44,h⟩ := bindS h
          obtain ⟨y_45,hy_45,h⟩ := bindS h
          refine AWP.draw (s' := ⟨[(1,.rd β3 a1.length (a1.flatMap (encI .i64))),(2,.ptr 1 0),(6,.sc (.int .i64 x_25)),(7,.sc (.int .i64 x_40)),(8,.rd false y_42.length (y_42.flatMap (encI .i64))),(38,.sc (.bool (y_43 && (decide (y_44 < y_45)))))],[(1,⟨25,false,[.rd β1 a0.Points.length (a0.Points.flatMap encR45),.rd β2 a0.Before.length (a0.Before.flatMap encR93)]⟩)]⟩) mixed [⟨1,.rd β3 a1.length (a1.flatMap (encI .i64)),none,[]⟩,⟨2,.ptr 1 0,none,[]⟩,⟨6,.sc (.int .i64 x_25),none,[]⟩,⟨7,.sc (.int .i64 x_40),none,[]⟩,⟨8,.rd false y_42.length (y_42.flatMap (encI .i64)),none,[]⟩,⟨27,.agg [.rd β1 a0.Points.length (a0.Points.flatMap encR45),.rd β2 a0.Before.length (a0.Before.flatMap encR93)],some 0,[]⟩,⟨28,.rd false y_42.length (y_42.flatMap (encI .i64)),some 1,[]⟩,⟨29,.sc (.bool y_43),some 2,[]⟩,⟨30,.sc (.bool y_43),some 3,[]⟩,⟨31,.gd y_43 (.agg [.rd β1 a0.Points.length (a0.Points.flatMap encR45),.rd β2 a0.Before.length (a0.Before.flatMap encR93)]),some 4,[]⟩,⟨32,.gd y_43 (.rd false y_42.length (y_42.flatMap (encI .i64))),some 5,[]⟩,⟨33,.gd y_43 (.sc (.int .i64 y_44)),some 6,[]⟩,⟨34,.gd y_43 (.agg [.rd β1 a0.Points.length (a0.Points.flatMap encR45),.rd β2 a0.Before.length (a0.Before.flatMap encR93)]),some 7,[]⟩,⟨35,.gd y_43 (.rd β3 a1.length (a1.flatMap (encI .i64))),some 8,[]⟩,⟨36,.gd y_43 (.sc (.int .i64 y_45)),some 9,[]⟩,⟨37,.gd y_43 (.sc (.bool (decide (y_44 < y_45)))),some 10,[]⟩,⟨38,.sc (.bool (y_43 && (decide (y_44 < y_45)))),some 11,[]⟩] [⟨[1],0,0,some (27,.agg [.rd β1 a0.Points.length (a0.Points.flatMap encR45),.rd β2 a0.Before.length (a0.Before.flatMap encR93)]),[]⟩,⟨[4],0,0,some (28,.rd false y_42.length (y_42.flatMap (encI .i64))),[]⟩,⟨[5,6],0,0,some (29,.sc (.bool y_43)),[]⟩,⟨[7],0,0,some (30,.sc (.bool y_43)),[]⟩,⟨[8,1],0,0,some (31,.gd y_43 (.agg [.rd β1 a0.Points.length (a0.Points.flatMap encR45),.rd β2 a0.Before.length (a0.Before.flatMap encR93)])),[]⟩,⟨[8,4],0,0,some (32,.gd y_43 (.rd false y_42.length (y_42.flatMap (encI .i64)))),[]⟩,⟨[8,9,10],0,0,some (33,.gd y_43 (.sc (.int .i64 y_44))),[]⟩,⟨[8,1],0,0,some (34,.gd y_43 (.agg [.rd β1 a0.Points.length (a0.Points.flatMap encR45),.rd β2 a0.Before.length (a0.Before.flatMap encR93)])),[]⟩,⟨[8,0],0,0,some (35,.gd y_43 (.rd β3 a1.length (a1.flatMap (encI .i64)))),[]⟩,⟨[8,12,13],0,0,some (36,.gd y_43 (.sc (.int .i64 y_45))),[]⟩,⟨[8,11,14],0,0,some (37,.gd y_43 (.sc (.bool (decide (y_44 < y_45))))),[]⟩,⟨[8,15],0,0,some (38,.sc (.bool (y_43 && (decide (y_44 < y_45))))),[]⟩] [] [[(1,⟨25,false,[.rd β1 a0.Points.length (a0.Points.flatMap encR45),.rd β2 a0.Before.length (a0.Before.flatMap encR93)]⟩)]] [[],[],[0,1],[0,1,2],[0,1,2,3],[0,1,2,3],[0,1,2,3,4,5],[0,1,2,3],[0,1,2,3],[0,1,2,3,4,5,6,7,8],[0,1,2,3,4,5,6,7,8,9],[0,1,2,3,4,5,6,7,8,9,10]] (by kernel_rfl) (by kernel_rfl) (BornL.ok (.o<| .o<| .o<| .o<| .o<| .b rfl rfl<| .b rfl rfl<| .b rfl rfl<| .b rfl rfl<| .b rfl rfl<| .b rfl rfl<| .b rfl rfl<| .b rfl rfl<| .b rfl rfl<| .b rfl rfl<| .b rfl rfl<| .b rfl rfl<| .n)) (BaseL.ok (.o rfl<| .o rfl<| .o rfl<| .o rfl<| .o rfl<| .b<| .b<| .b<| .b<| .b<| .b<| .b<| .b<| .b<| .b<| .b<| .b<| .n)) rfl (by decide) (allLt rfl) (.read rfl (.c (.put (fun E hE => .loadPA (lt1 rfl) (.tmp (hE.at (k := 0) rfl)) agg25 rfl rfl rfl rfl)) .n)<| .pure rfl (fun H => .put (fun E hE => .move (lt1 rfl) (.tmp (hE.at (k := 0) rfl))))<| .pure rfl (fun H => .put (fun E hE => .call0 (bw := false) (lt1 rfl) (c37 (β1 := β1) (β2 := β2) (β3 := false) n (R24.mk a0.Points a0.Before) y_42 hy_43) (.cons (.tmp (hE.at (k := 0) rfl)) (.ren rfl) (.cons (.tmp (hE.at (k := 1) rfl)) (.ren rfl) (.nil))) rfl))<| .pure rfl (fun H => .put (fun E hE => .move (lt1 rfl) (.tmp (hE.at (k := 0) rfl))))<| .read rfl (.c (.gput (b := y_43) (want := true) (j := 3) (dj := 30) rfl (lt1 rfl) (lt1 rfl) (fun E hE => hE.at (k := 0) rfl) (fun hg E hE => .loadPA (lt1 rfl) (.tmp (hE.at (k := 1) rfl)) agg25 rfl rfl rfl rfl)) .n)<| .pure rfl (fun H => .gput (b := y_43) (want := true) (j := 3) (dj := 30) rfl (lt1 rfl) (lt1 rfl) (fun E hE => hE.at (k := 0) rfl) (fun hg E hE => .move (lt1 rfl) (.tmp (hE.at (k := 1) rfl))))<| .pure rfl (fun H => .gput (b := y_43) (want := true) (j := 3) (dj := 30) rfl (lt1 rfl) (lt1 rfl) (fun E hE => hE.at (k := 0) rfl) (fun hg E hE => .call0 (bw := false) (lt1 rfl) (c20 (β1 := β1) (β2 := β2) (β3 := false) n (R24.mk a0.Points a0.Before) y_42 (gdB hy_44 hg)) (.cons (.gd hg (.tmp (hE.at (k := 1) rfl))) (.ren rfl) (.cons (.gd hg (.tmp (hE.at (k := 2) rfl))) (.ren rfl) (.nil))) rfl))<| .read rfl (.c (.gput (b := y_43) (want := true) (j := 3) (dj := 30) rfl (lt1 rfl) (lt1 rfl) (fun E hE => hE.at (k := 0) rfl) (fun hg E hE => .loadPA (lt1 rfl) (.tmp (hE.at (k := 1) rfl)) agg25 rfl rfl rfl rfl)) .n)<| .pure rfl (fun H => .gput (b := y_43) (want := true) (j := 3) (dj := 30) rfl (lt1 rfl) (lt1 rfl) (fun E hE => hE.at (k := 0) rfl) (fun hg E hE => .move (lt1 rfl) (.tmp (hE.at (k := 1) rfl))))<| .pure rfl (fun H => .gput (b := y_43) (want := true) (j := 3) (dj := 30) rfl (lt1 rfl) (lt1 rfl) (fun E hE => hE.at (k := 0) rfl) (fun hg E hE => .call0 (bw := false) (lt1 rfl) (c20 (β1 := β1) (β2 := β2) (β3 := β3) n (R24.mk a0.Points a0.Before) a1 (gdB hy_45 hg)) (.cons (.gd hg (.tmp (hE.at (k := 1) rfl))) (.ren rfl) (.cons (.gd hg (.tmp (hE.at (k := 2) rfl))) (.ren rfl) (.nil))) rfl))<| .pure rfl (fun H => .gput (b := y_43) (want := true) (j := 3) (dj := 30) rfl (lt1 rfl) (lt1 rfl) (fun E hE => hE.at (k := 0) rfl) (fun hg E hE => .lss (lt1 rfl) (.gd hg (.tmp (hE.at (k := 1) rfl))) (.gd hg (.tmp (hE.at (k := 2) rfl)))))<| .pure rfl (fun H => .put (fun E hE => .pickAnd (lt1 rfl) (.tmp (hE.at (k := 0) rfl)) (.tmp (hE.at (k := 1) rfl)) (.const _ _ _)))<| .nil _) (fun E hE => .c (DInv.at hE (k := 0) rfl rfl rfl)<| .c (DInv.at hE (k := 1) rfl rfl rfl)<| .c (DInv.at hE (k := 2) rfl rfl rfl)<| .c (DInv.at hE (k := 3) rfl rfl rfl)<| .c (DInv.at hE (k := 4) rfl rfl rfl)<| .c (DInv.at hE (k := 16) rfl rfl rfl)<| .n _) rfl ?_
          refine AWP.vc (s' := ⟨[(1,.rd β3 a1.length (a1.flatMap (encI .i64))),(2,.ptr 1 0),(6,.sc (.int .i64 x_25)),(7,.sc (.int .i64 x_40)),(8,.rd false y_42.length (y_42.flatMap (encI .i64))),(38,.sc (.bool (y_43 && (decide (y_44 < y_45)))))],[(1,⟨25,false,[.rd β1 a0.Points.length (a0.Points.flatMap encR45),.rd β2 a0.Before.length (a0.Before.flatMap encR93)]⟩)]⟩) (VC.sub (.c rfl<| .c rfl<| .c rfl<| .c rfl<| .c rfl<| .c rfl<| .n _) (.c rfl<| .n _)) ?_
          refine AWP.cond (.tmp rfl) (fun hc => ?_) (fun hc => ?_)
          · have h := iteT hc h
            refine AWP.seq ?_
            refine AWP.region (.cons (.move (lt1 rfl) (.tmp rfl))<| .cons (.assign (lt1 rfl) (.tmp rfl))<| .cons (.assign (lt1 rfl) (.const _ _ _))<| ARun.nil _ _ _) ?_
            refine AWP.ret ?_
            obtain rfl := Option.some.inj h
            refine retJ (Res.vc (s' := ⟨[(4,.rd false y_42.length (y_42.flatMap (encI .i64))),(5,.sc (.bool true))],[]⟩) (VC.sub (.c rfl<| .c rfl<| .n _) (.n _)) ?_)
            refine Res.drop (H := []) rfl ?_
            exact Res.of rfl (.cons (.tmp rfl) (.cons (.tmp rfl) (.nil))) rfl rfl
          · have h := iteF hc h
            refine AWP.skip ?_
            obtain ⟨t7_46,ht7_46,h⟩ := letS h
            refine AWP.region (.cons (.move (lt1 rfl) (.tmp rfl))<| .cons (.add (lt1 rfl) (.tmp rfl) (.const _ _ _))<| .cons (.assign (lt1 rfl) (.tmp rfl))<| ARun.nil _ _ _) ?_
            exact endJ t7_46 h (by subst ht7_46; exact VC.sub (.c rfl<| .c rfl<| .c rfl<| .c rfl<| .n _) (.c rfl<| .n _))
        · have h := iteF hc h
          refine AWP.exit ?_
          exact endJ () h (VC.sub (.c rfl<| .c rfl<| .c rfl<| .n _) (.c rfl<| .n _))
    · have h := iteF hc h
      refine AWP.exit ?_
      exact endJ () h (VC.sub (.n _) (.n _))
theorem c34 {β1 : Bool} {β2 : Bool} {β3 : Bool} (n : Nat) (a0 : R24) (a1 : (List Int)) {r : ((List Int) × Int)} (h : m34 n a0 a1 = some r) : Spec Try.prog 34 [] [.agg [.rd β1 a0.Points.length (a0.Points.flatMap encR45),.rd β2 a0.Before.length (a0.Before.flatMap encR93)],.rd β3 a1.length (a1.flatMap (encI .i64))] [] (.tup [.rd false r.1.length (r.1.flatMap (encI .i64)),.sc (.int .i64 r.2)]) [] := by
  refine Spec.of (fn := Try.f34) Try.func34 Try.ntmps34 rfl rfl (le1 rfl) (fun w0 Zs Zb T0 ι0 => ?_)
  unfold m34 at h
  refine AWP.seq ?_
  refine AWP.region (.cons (.box (t := 1) (n := 2) (lt1 rfl) (nm rfl) (.tmp rfl) (by first | exact ⟨rfl,rfl⟩ | rfl) rfl)<| .cons (.assign (lt1 rfl) (.const _ _ _))<| .cons (.assign (lt1 rfl) (.const _ _ _))<| ARun.nil _ _ _) ?_
  refine AWP.vc (s' := ⟨[(1,.rd β3 a1.length (a1.flatMap (encI .i64))),(2,.ptr 1 0)],[(1,⟨25,false,[.rd β1 a0.Points.length (a0.Points.flatMap encR45),.rd β2 a0.Before.length (a0.Before.flatMap encR93)]⟩)]⟩) (VC.sub (.c rfl<| .c rfl<| .n _) (.c rfl<| .n _)) ?_
  refine AWP.seq ?_
  refine AWP.block ?_
  refine AWP.seq ?_
  obtain ⟨y_1,hy_1,h⟩ := bindS h
  refine AWP.region (.cons (.loadPA (lt1 rfl) (.tmp rfl) agg25 rfl rfl rfl rfl)<| .cons (.call0 (bw := false) (lt1 rfl) (c15 (β1 := β1) (β2 := β2) n (R24.mk a0.Points a0.Before) hy_1) (.cons (.tmp rfl) (.ren rfl) (.nil)) rfl)<| .cons (.not (lt1 rfl) (.tmp rfl))<| .cons (.assign (lt1 rfl) (.tmp rfl))<| ARun.nil _ _ _) ?_
  refine AWP.vc (s' := ⟨[(1,.rd β3 a1.length (a1.flatMap (encI .i64))),(2,.ptr 1 0),(9,.sc (.bool (!y_1)))],[(1,⟨25,false,[.rd β1 a0.Points.length (a0.Points.flatMap encR45),.rd β2 a0.Before.length (a0.Before.flatMap encR93)]⟩)]⟩) (VC.sub (.c rfl<| .c rfl<| .c rfl<| .n _) (.c rfl<| .n _)) ?_
  refine AWP.cond (.tmp rfl) (fun hc => ?_) (fun hc => ?_)
  · have h := iteT hc h
    refine AWP.seq ?_
    refine AWP.region (.cons (.assign (lt1 rfl) (.const _ _ _))<| .cons (.assign (lt1 rfl) (.const _ _ _))<| ARun.nil _ _ _) ?_
    refine AWP.ret ?_
    obtain rfl := Option.some.inj h
    refine retJ (Res.vc (s' := ⟨[(4,.rd false ([] : List Int).length (([] : List Int).flatMap (encI .i64))),(5,.sc (.int .i64 (1 : Int)))],[]⟩) (VC.trans (VC.nilRd (d := 4) false rfl) (VC.sub (.c rfl<| .c rfl<| .n _) (.n _))) ?_)
    refine Res.drop (H := []) rfl ?_
    exact Res.of rfl (.cons (.tmp rfl) (.cons (.tmp rfl) (.nil))) rfl rfl
  · have h := iteF hc h
    refine AWP.seq ?_
    obtain ⟨y_2,hy_2,h⟩ := bindS h
    refine AWP.region (.cons (.loadPA (lt1 rfl) (.tmp rfl) agg25 rfl rfl rfl rfl)<| .cons (.move (lt1 rfl) (.tmp rfl))<| .cons (.call0 (bw := false) (lt1 rfl) (c37 (β1 := β1) (β2 := β2) (β3 := β3) n (R24.mk a0.Points a0.Before) a1 hy_2) (.cons (.tmp rfl) (.ren rfl) (.cons (.tmp rfl) (.ren rfl) (.nil))) rfl)<| .cons (.not (lt1 rfl) (.tmp rfl))<| .cons (.assign (lt1 rfl) (.tmp rfl))<| ARun.nil _ _ _) ?_
    refine AWP.vc (s' := ⟨[(1,.rd β3 a1.length (a1.flatMap (encI .i64))),(2,.ptr 1 0),(13,.sc (.bool (!y_2)))],[(1,⟨25,false,[.rd β1 a0.Points.length (a0.Points.flatMap encR45),.rd β2 a0.Before.length (a0.Before.flatMap encR93)]⟩)]⟩) (VC.sub (.c rfl<| .c rfl<| .c rfl<| .n _) (.c rfl<| .n _)) ?_
    refine AWP.cond (.tmp rfl) (fun hc => ?_) (fun hc => ?_)
    · have h := iteT hc h
      refine AWP.seq ?_
      refine AWP.region (.cons (.assign (lt1 rfl) (.const _ _ _))<| .cons (.assign (lt1 rfl) (.const _ _ _))<| ARun.nil _ _ _) ?_
      refine AWP.ret ?_
      obtain rfl := Option.some.inj h
      refine retJ (Res.vc (s' := ⟨[(4,.rd false ([] : List Int).length (([] : List Int).flatMap (encI .i64))),(5,.sc (.int .i64 (22 : Int)))],[]⟩) (VC.trans (VC.nilRd (d := 4) false rfl) (VC.sub (.c rfl<| .c rfl<| .n _) (.n _))) ?_)
      refine Res.drop (H := []) rfl ?_
      exact Res.of rfl (.cons (.tmp rfl) (.cons (.tmp rfl) (.nil))) rfl rfl
    · have h := iteF hc h
      refine AWP.skip ?_
      refine AWP.seq ?_
      obtain ⟨l2_3,hl2_3,h⟩ := bindS h
      refine AWP.region (.cons (.buildSlice (t := 2) (out := ([] : List Int).flatMap (encI .i64)) (lt1 rfl) (nm rfl) (.nil) Try.underlying28 zero3 el3 (by decide) (by decide) rfl (still_all (encI_still .i64) _))<| .cons (.move (lt1 rfl) (.tmp rfl))<| .cons (.app (enc := (encI .i64)) (lt1 rfl) (nm rfl) (.tmp rfl) (Src.rd (.tmp rfl) (flatMap_length (encI_len .i64) _) (one_all (encI_one .i64) _) (.inr (scal_all (encI_scal .i64) _))) Try.underlying28 ⟨_,Try.underlying28,by intro k hk; cases hk⟩ el3 rfl (encI_len .i64) rfl rfl (by decide) hl2_3)<| .cons (.assign (lt1 rfl) (.tmp rfl))<| ARun.nil _ _ _) ?_
      refine AWP.vc (s' := ⟨[(2,.ptr 1 0),(6,.own 2 1 0 l2_3.length)],[(2,⟨3,true,l2_3.flatMap (encI .i64)⟩),(1,⟨25,false,[.rd β1 a0.Points.length (a0.Points.flatMap encR45),.rd β2 a0.Before.length (a0.Before.flatMap encR93)]⟩)]⟩) (VC.sub (.c rfl<| .c rfl<| .n _) (.c rfl<| .c rfl<| .n _)) ?_
      refine AWP.block ?_
      refine AWP.vc (s' := ⟨[(2,.ptr 1 0),(6,.rd false l2_3.length (l2_3.flatMap (encI .i64)))],[(1,⟨25,false,[.rd β1 a0.Points.length (a0.Points.flatMap encR45),.rd β2 a0.Before.length (a0.Before.flatMap encR93)]⟩)]⟩) (VC.trans (VC.frz (d := 6) (t := 2) rfl rfl (encI_len .i64)) (VC.sub (.c rfl<| .c rfl<| .n _) (.c rfl<| .n _))) ?_
      refine AWP.loopM (S := fun x_8 : (List Int) => ⟨[(2,.ptr 1 0),(6,.rd false x_8.length (x_8.flatMap (encI .i64)))],[(1,⟨25,false,[.rd β1 a0.Points.length (a0.Points.flatMap encR45),.rd β2 a0.Before.length (a0.Before.flatMap encR93)]⟩)]⟩) (x := l2_3) (fun nx_9 x_8 h => ?_) h
      unfold m34_L1 at h
      refine AWP.block ?_
      refine AWP.seq ?_
      obtain ⟨y_10,hy_10,h⟩ := bindS h
      refine AWP.region (.cons (.loadPA (lt1 rfl) (.tmp rfl) agg25 rfl rfl rfl rfl)<| .cons (.move (lt1 rfl) (.tmp rfl))<| .cons (.call0 (bw := false) (lt1 rfl) (c71 (β1 := β1) (β2 := β2) (β3 := false) n (R24.mk a0.Points a0.Before) x_8 hy_10) (.cons (.tmp rfl) (.ren rfl) (.cons (.tmp rfl) (.ren rfl) (.nil))) rfl)<| .cons (.move (lt1 rfl) (.tmp rfl))<| .cons (.extract (lt1 rfl) (.tmp rfl) rfl)<| .cons (.extract (lt1 rfl) (.tmp rfl) rfl)<| .cons (.assign (lt1 rfl) (.tmp rfl))<| .cons (.assign (lt1 rfl) (.tmp rfl))<| ARun.nil _ _ _) ?_
      refine AWP.vc (s' := ⟨[(2,.ptr 1 0),(6,.rd false x_8.length (x_8.flatMap (encI .i64))),(7,.rd false y_10.1.length (y_10.1.flatMap (encI .i64))),(8,.sc (.bool y_10.2))],[(1,⟨25,false,[.rd β1 a0.Points.length (a0.Points.flatMap encR45),.rd β2 a0.Before.length (a0.Before.flatMap encR93)]⟩)]⟩) (VC.sub (.c rfl<| .c rfl<| .c rfl<| .c rfl<| .n _) (.c rfl<| .n _)) ?_
      refine AWP.seq ?_
      refine AWP.seq ?_
      refine AWP.region (.cons (.move (lt1 rfl) (.tmp rfl))<| .cons (.not (lt1 rfl) (.tmp rfl))<| ARun.nil _ _ _) ?_
      refine AWP.vc (s' := ⟨[(2,.ptr 1 0),(6,.rd false x_8.length (x_8.flatMap (encI .i64))),(7,.rd false y_10.1.length (y_10.1.flatMap (encI .i64))),(28,.sc (.bool (!y_10.2)))],[(1,⟨25,false,[.rd β1 a0.Points.length (a0.Points.flatMap encR45),.rd β2 a0.Before.length (a0.Before.flatMap encR93)]⟩)]⟩) (VC.sub (.c rfl<| .c rfl<| .c rfl<| .c rfl<| .n _) (.c rfl<| .n _)) ?_
      refine AWP.cond (.tmp rfl) (fun hc => ?_) (fun hc => ?_)
      · have h := iteT hc h
        refine AWP.seq ?_
        refine AWP.region (.cons (.move (lt1 rfl) (.tmp rfl))<| .cons (.assign (lt1 rfl) (.tmp rfl))<| .cons (.assign (lt1 rfl) (.const _ _ _))<| ARun.nil _ _ _) ?_
        refine AWP.ret ?_
        obtain rfl := Option.some.inj h
        refine retJ (Res.vc (s' := ⟨[(4,.rd false x_8.length (x_8.flatMap (encI .i64))),(5,.sc (.int .i64 (0 : Int)))],[]⟩) (VC.sub (.c rfl<| .c rfl<| .n _) (.n _)) ?_)
        refine Res.drop (H := []) rfl ?_
        exact Res.of rfl (.cons (.tmp rfl) (.cons (.tmp rfl) (.nil))) rfl rfl
      · have h := iteF hc h
        refine AWP.skip ?_
        refine AWP.region (.cons (.move (lt1 rfl) (.tmp rfl))<| .cons (.assign (lt1 rfl) (.tmp rfl))<| ARun.nil _ _ _) ?_
        exact endJ y_10.1 h (VC.sub (.c rfl<| .c rfl<| .n _) (.c rfl<| .n _))
theorem c8 {β1 : Bool} {β2 : Bool} {β3 : Bool} (n : Nat) (a0 : R24) (a1 : (List Int)) {r : Bool} (h : m8 n a0 a1 = some r) : Spec Try.prog 8 [] [.agg [.rd β1 a0.Points.length (a0.Points.flatMap encR45),.rd β2 a0.Before.length (a0.Before.flatMap encR93)],.rd β3 a1.length (a1.flatMap (encI .i64))] [] (.sc (.bool r)) [] := by
  refine Spec.of (fn := Try.f8) Try.func8 Try.ntmps8 rfl rfl (le1 rfl) (fun w0 Zs Zb T0 ι0 => ?_)
  unfold m8 at h
  refine AWP.seq ?_
  refine AWP.region (.cons (.box (t := 1) (n := 2) (lt1 rfl) (nm rfl) (.tmp rfl) (by first | exact ⟨rfl,rfl⟩ | rfl) rfl)<| .cons (.assign (lt1 rfl) (.const _ _ _))<| ARun.nil _ _ _) ?_
  refine AWP.vc (s' := ⟨[(1,.rd β3 a1.length (a1.flatMap (encI .i64))),(2,.ptr 1 0)],[(1,⟨25,false,[.rd β1 a0.Points.length (a0.Points.flatMap encR45),.rd β2 a0.Before.length (a0.Before.flatMap encR93)]⟩)]⟩) (VC.sub (.c rfl<| .c rfl<| .n _) (.c rfl<| .n _)) ?_
  refine AWP.seq ?_
  refine AWP.seq ?_
  obtain ⟨y_1,hy_1,h⟩ := bindS h
  obtain ⟨y_2,hy_2,h⟩ := bindS h
  refine AWP.region (.cons (.call0 (bw := false) (lt1 rfl) (c11 n hy_1) (.nil) rfl)<| .cons (.not (lt1 rfl) (.tmp rfl))<| .cons (.move (lt1 rfl) (.tmp rfl))<| .guard (j := 2) (dj := 20) rfl (lt1 rfl) rfl (lt1 rfl) (fun hg => .loadPA (lt1 rfl) (.tmp rfl) agg25 rfl rfl rfl rfl)<| .guard (j := 2) (dj := 20) rfl (lt1 rfl) rfl (lt1 rfl) (fun hg => .call0 (bw := false) (lt1 rfl) (c12 (β1 := β1) (β2 := β2) n (R24.mk a0.Points a0.Before) (gdB hy_2 hg)) (.cons (.gd hg (.tmp rfl)) (.ren rfl) (.nil)) rfl)<| .guard (j := 2) (dj := 20) rfl (lt1 rfl) rfl (lt1 rfl) (fun hg => .not (lt1 rfl) (.gd hg (.tmp rfl)))<| .cons (.pickOr (lt1 rfl) (.tmp rfl) (.const _ _ _) (.tmp rfl))<| .cons (.move (lt1 rfl) (.tmp rfl))<| .guard (j := 7) (dj := 25) rfl (lt1 rfl) rfl (lt1 rfl) (fun hg => .move (lt1 rfl) (.tmp rfl))<| .guard (j := 7) (dj := 25) rfl (lt1 rfl) rfl (lt1 rfl) (fun hg => .lenRd (lt1 rfl) (.gd hg (.tmp rfl)) Try.underlying28)<| .guard (j := 7) (dj := 25) rfl (lt1 rfl) rfl (lt1 rfl) (fun hg => .gtr (lt1 rfl) (.gd hg (.tmp rfl)) (.const _ _ _))<| .cons (.pickOr (lt1 rfl) (.tmp rfl) (.const _ _ _) (.tmp rfl))<| ARun.nil _ _ _) ?_
  refine AWP.vc (s' := ⟨[(1,.rd β3 a1.length (a1.flatMap (encI .i64))),(2,.ptr 1 0),(29,.sc (.bool (((!y_1) || (!y_2)) || (decide ((20 : Int) < (a1.length : Int))))))],[(1,⟨25,false,[.rd β1 a0.Points.length (a0.Points.flatMap encR45),.rd β2 a0.Before.length (a0.Before.flatMap encR93)]⟩)]⟩) (VC.sub (.c rfl<| .c rfl<| .c rfl<| .n _) (.c rfl<| .n _)) ?_
  refine AWP.cond (.tmp rfl) (fun hc => ?_) (fun hc => ?_)
  · have h := iteT hc h
    refine AWP.seq ?_
    obtain ⟨y_3,hy_3,h⟩ := bindS h
    refine AWP.region (.cons (.call0 (bw := false) (lt1 rfl) (c11 n hy_3) (.nil) rfl)<| .cons (.assign (lt1 rfl) (.tmp rfl))<| ARun.nil _ _ _) ?_
    refine AWP.ret ?_
    obtain rfl := Option.some.inj h
    refine retJ (Res.vc (s' := ⟨[(4,.sc (.bool y_3))],[]⟩) (VC.sub (.c rfl<| .n _) (.n _)) ?_)
    refine Res.drop (H := []) rfl ?_
    exact Res.of rfl (.cons (.tmp rfl) (.nil)) rfl rfl
  · have h := iteF hc h
    refine AWP.skip ?_
    refine AWP.seq ?_
    obtain ⟨y_4,hy_4,h⟩ := bindS h
    obtain ⟨y_5,hy_5,h⟩ := bindS h
    refine AWP.region (.cons (.loadPA (lt1 rfl) (.tmp rfl) agg25 rfl rfl rfl rfl)<| .cons (.call0 (bw := false) (lt1 rfl) (c14 (β1 := β1) (β2 := β2) n (R24.mk a0.Points a0.Before) hy_4) (.cons (.tmp rfl) (.ren rfl) (.nil)) rfl)<| .cons (.move (lt1 rfl) (.tmp rfl))<| .cons (.call0 (bw := false) (lt1 rfl) (c29 (β1 := β1) (β2 := β2) (β3 := β3) n (R24.mk y_4.Points y_4.Before) a1 hy_5) (.cons (.tmp rfl) (.ren rfl) (.cons (.tmp rfl) (.ren rfl) (.nil))) rfl)<| .cons (.move (lt1 rfl) (.tmp rfl))<| .cons (.extract (lt1 rfl) (.tmp rfl) rfl)<| .cons (.extract (lt1 rfl) (.tmp rfl) rfl)<| .cons (.assign (lt1 rfl) (.tmp rfl))<| .cons (.assign (lt1 rfl) (.tmp rfl))<| ARun.nil _ _ _) ?_
    refine AWP.vc (s' := ⟨[(1,.rd β3 a1.length (a1.flatMap (encI .i64))),(2,.ptr 1 0),(5,.sc (.int .i64 y_5.1)),(6,.sc (.int .i64 y_5.2))],[(1,⟨25,false,[.rd β1 a0.Points.length (a0.Points.flatMap encR45),.rd β2 a0.Before.length (a0.Before.flatMap encR93)]⟩)]⟩) (VC.sub (.c rfl<| .c rfl<| .c rfl<| .c rfl<| .n _) (.c rfl<| .n _)) ?_
    refine AWP.seq ?_
    obtain ⟨y_6,hy_6,h⟩ := bindS h
    refine AWP.region (.cons (.loadPA (lt1 rfl) (.tmp rfl) agg25 rfl rfl rfl rfl)<| .cons (.move (lt1 rfl) (.tmp rfl))<| .cons (.call0 (bw := false) (lt1 rfl) (c30 (β1 := β1) (β2 := β2) (β3 := β3) n (R24.mk a0.Points a0.Before) a1 hy_6) (.cons (.tmp rfl) (.ren rfl) (.cons (.tmp rfl) (.ren rfl) (.nil))) rfl)<| .cons (.move (lt1 rfl) (.tmp rfl))<| .cons (.extract (lt1 rfl) (.tmp rfl) rfl)<| .cons (.extract (lt1 rfl) (.tmp rfl) rfl)<| .cons (.assign (lt1 rfl) (.tmp rfl))<| .cons (.assign (lt1 rfl) (.tmp rfl))<| ARun.nil _ _ _) ?_
    refine AWP.vc (s' := ⟨[(1,.rd β3 a1.length (a1.flatMap (encI .i64))),(2,.ptr 1 0),(5,.sc (.int .i64 y_5.1)),(6,.sc (.int .i64 y_5.2)),(7,.sc (.int .i64 y_6.1)),(8,.sc (.int .i64 y_6.2))],[(1,⟨25,false,[.rd β1 a0.Points.length (a0.Points.flatMap encR45),.rd β2 a0.Before.length (a0.Before.flatMap encR93)]⟩)]⟩) (VC.sub (.c rfl<| .c rfl<| .c rfl<| .c rfl<| .c rfl<| .c rfl<| .n _) (.c rfl<| .n _)) ?_
    refine AWP.seq ?_
    obtain ⟨y_7,hy_7,h⟩ := bindS h
    obtain ⟨y_8,hy_8,h⟩ := bindS h
    refine AWP.region (.cons (.loadPA (lt1 rfl) (.tmp rfl) agg25 rfl rfl rfl rfl)<| .cons (.call0 (bw := false) (lt1 rfl) (c14 (β1 := β1) (β2 := β2) n (R24.mk a0.Points a0.Before) hy_7) (.cons (.tmp rfl) (.ren rfl) (.nil)) rfl)<| .cons (.call0 (bw := false) (lt1 rfl) (c31 (β1 := β1) (β2 := β2) n (R24.mk y_7.Points y_7.Before) hy_8) (.cons (.tmp rfl) (.ren rfl) (.nil)) rfl)<| .cons (.move (lt1 rfl) (.tmp rfl))<| .cons (.extract (lt1 rfl) (.tmp rfl) rfl)<| .cons (.extract (lt1 rfl) (.tmp rfl) rfl)<| .cons (.assign (lt1 rfl) (.tmp rfl))<| .cons (.assign (lt1 rfl) (.tmp rfl))<| ARun.nil _ _ _) ?_
    refine AWP.vc (s' := ⟨[(1,.rd β3 a1.length (a1.flatMap (encI .i64))),(2,.ptr 1 0),(5,.sc (.int .i64 y_5.1)),(6,.sc (.int .i64 y_5.2)),(7,.sc (.int .i64 y_6.1)),(8,.sc (.int .i64 y_6.2)),(9,.rd false y_8.1.length (y_8.1.flatMap (encI .i64))),(10,.sc (.int .i64 y_8.2))],[(1,⟨25,false,[.rd β1 a0.Points.length (a0.Points.flatMap encR45),.rd β2 a0.Before.length (a0.Before.flatMap encR93)]⟩)]⟩) (VC.sub (.c rfl<| .c rfl<| .c rfl<| .c rfl<| .c rfl<| .c rfl<| .c rfl<| .c rfl<| .n _) (.c rfl<| .n _)) ?_
    refine AWP.seq ?_
    obtain ⟨y_9,hy_9,h⟩ := bindS h
    refine AWP.region (.cons (.loadPA (lt1 rfl) (.tmp rfl) agg25 rfl rfl rfl rfl)<| .cons (.call0 (bw := false) (lt1 rfl) (c32 (β1 := β1) (β2 := β2) n (R24.mk a0.Points a0.Before) hy_9) (.cons (.tmp rfl) (.ren rfl) (.nil)) rfl)<| .cons (.move (lt1 rfl) (.tmp rfl))<| .cons (.extract (lt1 rfl) (.tmp rfl) rfl)<| .cons (.extract (lt1 rfl) (.tmp rfl) rfl)<| .cons (.assign (lt1 rfl) (.tmp rfl))<| .cons (.assign (lt1 rfl) (.tmp rfl))<| ARun.nil _ _ _) ?_
    refine AWP.vc (s' := ⟨[(1,.rd β3 a1.length (a1.flatMap (encI .i64))),(2,.ptr 1 0),(5,.sc (.int .i64 y_5.1)),(6,.sc (.int .i64 y_5.2)),(7,.sc (.int .i64 y_6.1)),(8,.sc (.int .i64 y_6.2)),(9,.rd false y_8.1.length (y_8.1.flatMap (encI .i64))),(10,.sc (.int .i64 y_8.2)),(11,.rd false y_9.1.length (y_9.1.flatMap (encI .i64))),(12,.sc (.int .i64 y_9.2))],[(1,⟨25,false,[.rd β1 a0.Points.length (a0.Points.flatMap encR45),.rd β2 a0.Before.length (a0.Before.flatMap encR93)]⟩)]⟩) (VC.sub (.c rfl<| .c rfl<| .c rfl<| .c rfl<| .c rfl<| .c rfl<| .c rfl<| .c rfl<| .c rfl<| .c rfl<| .n _) (.c rfl<| .n _)) ?_
    refine AWP.seq ?_
    obtain ⟨y_10,hy_10,h⟩ := bindS h
    obtain ⟨y_11,hy_11,h⟩ := bindS h
    refine AWP.region (.cons (.loadPA (lt1 rfl) (.tmp rfl) agg25 rfl rfl rfl rfl)<| .cons (.call0 (bw := false) (lt1 rfl) (c14 (β1 := β1) (β2 := β2) n (R24.mk a0.Points a0.Before) hy_10) (.cons (.tmp rfl) (.ren rfl) (.nil)) rfl)<| .cons (.move (lt1 rfl) (.tmp rfl))<| .cons (.call0 (bw := false) (lt1 rfl) (c33 (β1 := β1) (β2 := β2) (β3 := β3) n (R24.mk y_10.Points y_10.Before) a1 hy_11) (.cons (.tmp rfl) (.ren rfl) (.cons (.tmp rfl) (.ren rfl) (.nil))) rfl)<| .cons (.move (lt1 rfl) (.tmp rfl))<| .cons (.extract (lt1 rfl) (.tmp rfl) rfl)<| .cons (.extract (lt1 rfl) (.tmp rfl) rfl)<| .cons (.assign (lt1 rfl) (.tmp rfl))<| .cons (.assign (lt1 rfl) (.tmp rfl))<| ARun.nil _ _ _) ?_
    refine AWP.vc (s' := ⟨[(1,.rd β3 a1.length (a1.flatMap (encI .i64))),(2,.ptr 1 0),(5,.sc (.int .i64 y_5.1)),(6,.sc (.int .i64 y_5.2)),(7,.sc (.int .i64 y_6.1)),(8,.sc (.int .i64 y_6.2)),(9,.rd false y_8.1.length (y_8.1.flatMap (encI .i64))),(10,.sc (.int .i64 y_8.2)),(11,.rd false y_9.1.length (y_9.1.flatMap (encI .i64))),(12,.sc (.int .i64 y_9.2)),(13,.rd false y_11.1.length (y_11.1.flatMap (encI .i64))),(14,.sc (.int .i64 y_11.2))],[(1,⟨25,false,[.rd β1 a0.Points.length (a0.Points.flatMap encR45),.rd β2 a0.Before.length (a0.Before.flatMap encR93)]⟩)]⟩) (VC.sub (.c rfl<| .c rfl<| .c rfl<| .c rfl<| .c rfl<| .c rfl<| .c rfl<| .c rfl<| .c rfl<| .c rfl<| .c rfl<| .c rfl<| .n _) (.c rfl<| .n _)) ?_
    refine AWP.seq ?_
    obtain ⟨y_12,hy_12,h⟩ := bindS h
    refine AWP.region (.cons (.loadPA (lt1 rfl) (.tmp rfl) agg25 rfl rfl rfl rfl)<| .cons (.move (lt1 rfl) (.tmp rfl))<| .cons (.call0 (bw := false) (lt1 rfl) (c34 (β1 := β1) (β2 := β2) (β3 := β3) n (R24.mk a0.Points a0.Before) a1 hy_12) (.cons (.tmp rfl) (.ren rfl) (.cons (.tmp rfl) (.ren rfl) (.nil))) rfl)<| .cons (.move (lt1 rfl) (.tmp rfl))<| .cons (.extract (lt1 rfl) (.tmp rfl) rfl)<| .cons (.extract (lt1 rfl) (.tmp rfl) rfl)<| .cons (.assign (lt1 rfl) (.tmp rfl))<| .cons (.assign (lt1 rfl) (.tmp rfl))<| ARun.nil _ _ _) ?_
    refine AWP.vc (s' := ⟨[(2,.ptr 1 0),(5,.sc (.int .i64 y_5.1)),(6,.sc (.int .i64 y_5.2)),(7,.sc (.int .i64 y_6.1)),(8,.sc (.int .i64 y_6.2)),(9,.rd false y_8.1.length (y_8.1.flatMap (encI .i64))),(10,.sc (.int .i64 y_8.2)),(11,.rd false y_9.1.length (y_9.1.flatMap (encI .i64))),(12,.sc (.int .i64 y_9.2)),(13,.rd false y_11.1.length (y_11.1.flatMap (encI .i64))),(14,.sc (.int .i64 y_11.2)),(15,.rd false y_12.1.length (y_12.1.flatMap (encI .i64))),(16,.sc (.int .i64 y_12.2))],[(1,⟨25,false,[.rd β1 a0.Points.length (a0.Points.flatMap encR45),.rd β2 a0.Before.length (a0.Before.flatMap encR93)]⟩)]⟩) (VC.sub (.c rfl<| .c rfl<| .c rfl<| .c rfl<| .c rfl<| .c rfl<| .c rfl<| .c rfl<| .c rfl<| .c rfl<| .c rfl<| .c rfl<| .c rfl<| .n _) (.c rfl<| .n _)) ?_
    refine AWP.seq ?_
    refine AWP.seq ?_
    refine AWP.region (.cons (.fieldP (lt1 rfl) (.tmp rfl) fld25_0)<| .cons (.loadP (lt1 rfl) (.tmp rfl) one22 rfl rfl rfl)<| .cons (.lenRd (lt1 rfl) (.tmp rfl) Try.underlying22)<| .cons (.move (lt1 rfl) (.const _ _ _))<| ARun.nil _ _ _) ?_
    refine AWP.vc (s' := ⟨[(2,.ptr 1 0),(5,.sc (.int .i64 y_5.1)),(6,.sc (.int .i64 y_5.2)),(7,.sc (.int .i64 y_6.1)),(8,.sc (.int .i64 y_6.2)),(9,.rd false y_8.1.length (y_8.1.flatMap (encI .i64))),(10,.sc (.int .i64 y_8.2)),(11,.rd false y_9.1.length (y_9.1.flatMap (encI .i64))),(12,.sc (.int .i64 y_9.2)),(13,.rd false y_11.1.length (y_11.1.flatMap (encI .i64))),(14,.sc (.int .i64 y_11.2)),(15,.rd false y_12.1.length (y_12.1.flatMap (encI .i64))),(16,.sc (.int .i64 y_12.2)),(70,.sc (.int .i64 (a0.Points.length : Int))),(71,.sc (.int .i64 (0 : Int)))],[(1,⟨25,false,[.rd β1 a0.Points.length (a0.Points.flatMap encR45),.rd β2 a0.Before.length (a0.Before.flatMap encR93)]⟩)]⟩) (VC.sub (.c rfl<| .c rfl<| .c rfl<| .c rfl<| .c rfl<| .c rfl<| .c rfl<| .c rfl<| .c rfl<| .c rfl<| .c rfl<| .c rfl<| .c rfl<| .c rfl<| .c rfl<| .n _) (.c rfl<| .n _)) ?_
    refine AWP.joinB' (S := fun p_30 : Unit => ⟨[(2,.ptr 1 0),(5,.sc (.int .i64 y_5.1)),(6,.sc (.int .i64 y_5.2)),(7,.sc (.int .i64 y_6.1)),(8,.sc (.int .i64 y_6.2)),(9,.rd false y_8.1.length (y_8.1.flatMap (encI .i64))),(10,.sc (.int .i64 y_8.2)),(11,.rd false y_9.1.length (y_9.1.flatMap (encI .i64))),(12,.sc (.int .i64 y_9.2)),(13,.rd false y_11.1.length (y_11.1.flatMap (encI .i64))),(14,.sc (.int .i64 y_11.2)),(15,.rd false y_12.1.length (y_12.1.flatMap (encI .i64))),(16,.sc (.int .i64 y_12.2))],[(1,⟨25,false,[.rd β1 a0.Points.length (a0.Points.flatMap encR45),.rd β2 a0.Before.length (a0.Before.flatMap encR93)]⟩)]⟩) h (fun p_30 h => ?_) (fun k_31 h => ?_)
    · refine AWP.seq ?_
      obtain ⟨y_32,hy_32,h⟩ := bindS h
      obtain ⟨y_33,hy_33,h⟩ := bindS h
      obtain ⟨y_34,hy_34,h⟩ := bindS h
      obtain ⟨y_35,hy_35,h⟩ := bindS h
      obtain ⟨y_36,hy_36,h⟩ := bindS h
      refine AWP.draw (s' := ⟨[(4,.sc (.bool (((((((y_33 == y_34) && (decide (y_5.1 = y_6.1))) && (decide (y_5.2 = y_6.2))) && y_35) && (decide (y_8.2 = y_9.2))) && y_36) && (decide (y_11.2 = y_12.2)))))],[(1,⟨25,false,[.rd β1 a0.Points.length (a0.Points.flatMap encR45),.rd β2 a0.Before.length (a0.Before.flatMap encR93)]⟩)]⟩) mixed (⟨2,.ptr 1 0,none,[]⟩ :: ⟨5,.sc (.int .i64 y_5.1),none,[]⟩ :: ⟨6,.sc (.int .i64 y_5.2),none,[]⟩ :: ⟨7,.sc (.int .i64 y_6.1),none,[]⟩ :: ⟨8,.sc (.int .i64 y_6.2),none,[]⟩ :: ⟨9,.rd false y_8.1.length (y_8.1.flatMap (encI .i64)),none,[]⟩ :: ⟨10,.sc (.int .i64 y_8.2),none,[]⟩ :: ⟨11,.rd false y_9.1.length (y_9.1.flatMap (encI .i64)),none,[]⟩ :: ⟨12,.sc (.int .i64 y_9.2),none,[]⟩ :: ⟨13,.rd false y_11.1.length (y_11.1.flatMap (encI .i64)),none,[]⟩ :: ⟨14,.sc (.int .i64 y_11.2),none,[]⟩ :: ⟨15,.rd false y_12.1.length (y_12.1.flatMap (encI .i64)),none,[]⟩ :: ⟨16,.sc (.int .i64 y_12.2),none,[]⟩ :: ⟨96,.agg [.rd β1 a0.Points.length (a0.Points.flatMap encR45),.rd β2 a0.Before.length (a0.Before.flatMap encR93)],some 0,[]⟩ :: ⟨97,.agg [.rd β1 y_32.Points.length (y_32.Points.flatMap encR45),.rd β2 y_32.Before.length (y_32.Before.flatMap encR93)],some 1,[]⟩ :: ⟨98,.sc (.bool y_33),some 2,[]⟩ :: ⟨99,.agg [.rd β1 a0.Points.length (a0.Points.flatMap encR45),.rd β2 a0.Before.length (a0.Before.flatMap encR93)],some 3,[]⟩ :: ⟨100,.sc (.bool y_34),some 4,[]⟩ :: ⟨101,.sc (.bool (y_33 == y_34)),some 5,[]⟩ :: ⟨102,.sc (.bool (y_33 == y_34)),some 6,[]⟩ :: ⟨103,.gd (y_33 == y_34) (.sc (.int .i64 y_5.1)),some 7,[]⟩ :: ⟨104,.gd (y_33 == y_34) (.sc (.int .i64 y_6.1)),some 8,[]⟩ :: ⟨105,.gd (y_33 == y_34) (.sc (.bool (decide (y_5.1 = y_6.1)))),some 9,[]⟩ :: ⟨106,.sc (.bool ((y_33 == y_34) && (decide (y_5.1 = y_6.1)))),some 10,[]⟩ :: ⟨107,.sc (.bool ((y_33 == y_34) && (decide (y_5.1 = y_6.1)))),some 11,[]⟩ :: ⟨108,.gd ((y_33 == y_34) && (decide (y_5.1 = y_6.1))) (.sc (.int .i64 y_5.2)),some 12,[]⟩ :: ⟨109,.gd ((y_33 == y_34) && (decide (y_5.1 = y_6.1))) (.sc (.int .i64 y_6.2)),some 13,[]⟩ :: ⟨110,.gd ((y_33 == y_34) && (decide (y_5.1 = y_6.1))) (.sc (.bool (decide (y_5.2 = y_6.2)))),some 14,[]⟩ :: ⟨111,.sc (.bool (((y_33 == y_34) && (decide (y_5.1 = y_6.1))) && (decide (y_5.2 = y_6.2)))),some 15,[]⟩ :: ⟨112,.sc (.bool (((y_33 == y_34) && (decide (y_5.1 = y_6.1))) && (decide (y_5.2 = y_6.2)))),some 16,[]⟩ :: ⟨113,.gd (((y_33 == y_34) && (decide (y_5.1 = y_6.1))) && (decide (y_5.2 = y_6.2))) (.rd false y_8.1.length (y_8.1.flatMap (encI .i64))),some 17,[]⟩ :: ⟨114,.gd (((y_33 == y_34) && (decide (y_5.1 = y_6.1))) && (decide (y_5.2 = y_6.2))) (.rd false y_9.1.length (y_9.1.flatMap (encI .i64))),some 18,[]⟩ :: ⟨115,.gd (((y_33 == y_34) && (decide (y_5.1 = y_6.1))) && (decide (y_5.2 = y_6.2))) (.sc (.bool y_35)),some 19,[]⟩ :: ⟨116,.sc (.bool ((((y_33 == y_34) && (decide (y_5.1 = y_6.1))) && (decide (y_5.2 = y_6.2))) && y_35)),some 20,[]⟩ :: ⟨117,.sc (.bool ((((y_33 == y_34) && (decide (y_5.1 = y_6.1))) && (decide (y_5.2 = y_6.2))) && y_35)),some 21,[]⟩ :: ⟨118,.gd ((((y_33 == y_34) && (decide (y_5.1 = y_6.1))) && (decide (y_5.2 = y_6.2))) && y_35) (.sc (.int .i64 y_8.2)),some 22,[]⟩ :: ⟨119,.gd ((((y_33 == y_34) && (decide (y_5.1 = y_6.1))) && (decide (y_5.2 = y_6.2))) && y_35) (.sc (.int .i64 y_9.2)),some 23,[]⟩ :: ⟨120,.gd ((((y_33 == y_34) && (decide (y_5.1 = y_6.1))) && (decide (y_5.2 = y_6.2))) && y_35) (.sc (.bool (decide (y_8.2 = y_9.2)))),some 24,[]⟩ :: ⟨121,.sc (.bool (((((y_33 == y_34) && (decide (y_5.1 = y_6.1))) && (decide (y_5.2 = y_6.2))) && y_35) && (decide (y_8.2 = y_9.2)))),some 25,[]⟩ :: ⟨122,.sc (.bool (((((y_33 == y_34) && (decide (y_5.1 = y_6.1))) && (decide (y_5.2 = y_6.2))) && y_35) && (decide (y_8.2 = y_9.2)))),some 26,[]⟩ :: ⟨123,.gd (((((y_33 == y_34) && (decide (y_5.1 = y_6.1))) && (decide (y_5.2 = y_6.2))) && y_35) && (decide (y_8.2 = y_9.2))) (.rd false y_11.1.length (y_11.1.flatMap (encI .i64))),some 27,[]⟩ :: ⟨124,.gd (((((y_33 == y_34) && (decide (y_5.1 = y_6.1))) && (decide (y_5.2 = y_6.2))) && y_35) && (decide (y_8.2 = y_9.2))) (.rd false y_12.1.length (y_12.1.flatMap (encI .i64))),some 28,[]⟩ :: ⟨125,.gd (((((y_33 == y_34) && (decide (y_5.1 = y_6.1))) && (decide (y_5.2 = y_6.2))) && y_35) && (decide (y_8.2 = y_9.2))) (.sc (.bool y_36)),some 29,[]⟩ :: ⟨126,.sc (.bool ((((((y_33 == y_34) && (decide (y_5.1 = y_6.1))) && (decide (y_5.2 = y_6.2))) && y_35) && (decide (y_8.2 = y_9.2))) && y_36)),some 30,[]⟩ :: ⟨127,.sc (.bool ((((((y_33 == y_34) && (decide (y_5.1 = y_6.1))) && (decide (y_5.2 = y_6.2))) && y_35) && (decide (y_8.2 = y_9.2))) && y_36)),some 31,[]⟩ :: ⟨128,.gd ((((((y_33 == y_34) && (decide (y_5.1 = y_6.1))) && (decide (y_5.2 = y_6.2))) && y_35) && (decide (y_8.2 = y_9.2))) && y_36) (.sc (.int .i64 y_11.2)),some 32,[]⟩ :: ⟨129,.gd ((((((y_33 == y_34) && (decide (y_5.1 = y_6.1))) && (decide (y_5.2 = y_6.2))) && y_35) && (decide (y_8.2 = y_9.2))) && y_36) (.sc (.int .i64 y_12.2)),some 33,[]⟩ :: ⟨130,.gd ((((((y_33 == y_34) && (decide (y_5.1 = y_6.1))) && (decide (y_5.2 = y_6.2))) && y_35) && (decide (y_8.2 = y_9.2))) && y_36) (.sc (.bool (decide (y_11.2 = y_12.2)))),some 34,[]⟩ :: ⟨131,.sc (.bool (((((((y_33 == y_34) && (decide (y_5.1 = y_6.1))) && (decide (y_5.2 = y_6.2))) && y_35) && (decide (y_8.2 = y_9.2))) && y_36) && (decide (y_11.2 = y_12.2)))),some 35,[]⟩ :: ⟨4,.sc (.bool (((((((y_33 == y_34) && (decide (y_5.1 = y_6.1))) && (decide (y_5.2 = y_6.2))) && y_35) && (decide (y_8.2 = y_9.2))) && y_36) && (decide (y_11.2 = y_12.2)))),some 36,[]⟩ :: []) [⟨[0],0,0,some (96,.agg [.rd β1 a0.Points.length (a0.Points.flatMap encR45),.rd β2 a0.Before.length (a0.Before.flatMap encR93)]),[]⟩,⟨[13],0,0,some (97,.agg [.rd β1 y_32.Points.length (y_32.Points.flatMap encR45),.rd β2 y_32.Before.length (y_32.Before.flatMap encR93)]),[]⟩,⟨[14],0,0,some (98,.sc (.bool y_33)),[]⟩,⟨[0],0,0,some (99,.agg [.rd β1 a0.Points.length (a0.Points.flatMap encR45),.rd β2 a0.Before.length (a0.Before.flatMap encR93)]),[]⟩,⟨[16],0,0,some (100,.sc (.bool y_34)),[]⟩,⟨[15,17],0,0,some (101,.sc (.bool (y_33 == y_34))),[]⟩,⟨[18],0,0,some (102,.sc (.bool (y_33 == y_34))),[]⟩,⟨[19,1],0,0,some (103,.gd (y_33 == y_34) (.sc (.int .i64 y_5.1))),[]⟩,⟨[19,3],0,0,some (104,.gd (y_33 == y_34) (.sc (.int .i64 y_6.1))),[]⟩,⟨[19,20,21],0,0,some (105,.gd (y_33 == y_34) (.sc (.bool (decide (y_5.1 = y_6.1))))),[]⟩,⟨[19,22],0,0,some (106,.sc (.bool ((y_33 == y_34) && (decide (y_5.1 = y_6.1))))),[]⟩,⟨[23],0,0,some (107,.sc (.bool ((y_33 == y_34) && (decide (y_5.1 = y_6.1))))),[]⟩,⟨[24,2],0,0,some (108,.gd ((y_33 == y_34) && (decide (y_5.1 = y_6.1))) (.sc (.int .i64 y_5.2))),[]⟩,⟨[24,4],0,0,some (109,.gd ((y_33 == y_34) && (decide (y_5.1 = y_6.1))) (.sc (.int .i64 y_6.2))),[]⟩,⟨[24,25,26],0,0,some (110,.gd ((y_33 == y_34) && (decide (y_5.1 = y_6.1))) (.sc (.bool (decide (y_5.2 = y_6.2))))),[]⟩,⟨[24,27],0,0,some (111,.sc (.bool (((y_33 == y_34) && (decide (y_5.1 = y_6.1))) && (decide (y_5.2 = y_6.2))))),[]⟩,⟨[28],0,0,some (112,.sc (.bool (((y_33 == y_34) && (decide (y_5.1 = y_6.1))) && (decide (y_5.2 = y_6.2))))),[]⟩,⟨[29,5],0,0,some (113,.gd (((y_33 == y_34) && (decide (y_5.1 = y_6.1))) && (decide (y_5.2 = y_6.2))) (.rd false y_8.1.length (y_8.1.flatMap (encI .i64)))),[]⟩,⟨[29,7],0,0,some (114,.gd (((y_33 == y_34) && (decide (y_5.1 = y_6.1))) && (decide (y_5.2 = y_6.2))) (.rd false y_9.1.length (y_9.1.flatMap (encI .i64)))),[]⟩,⟨[29,30,31],0,0,some (115,.gd (((y_33 == y_34) && (decide (y_5.1 = y_6.1))) && (decide (y_5.2 = y_6.2))) (.sc (.bool y_35))),[]⟩,⟨[29,32],0,0,some (116,.sc (.bool ((((y_33 == y_34) && (decide (y_5.1 = y_6.1))) && (decide (y_5.2 = y_6.2))) && y_35))),[]⟩,⟨[33],0,0,some (117,.sc (.bool ((((y_33 == y_34) && (decide (y_5.1 = y_6.1))) && (decide (y_5.2 = y_6.2))) && y_35))),[]⟩,⟨[34,6],0,0,some (118,.gd ((((y_33 == y_34) && (decide (y_5.1 = y_6.1))) && (decide (y_5.2 = y_6.2))) && y_35) (.sc (.int .i64 y_8.2))),[]⟩,⟨[34,8],0,0,some (119,.gd ((((y_33 == y_34) && (decide (y_5.1 = y_6.1))) && (decide (y_5.2 = y_6.2))) && y_35) (.sc (.int .i64 y_9.2))),[]⟩,⟨[34,35,36],0,0,some (120,.gd ((((y_33 == y_34) && (decide (y_5.1 = y_6.1))) && (decide (y_5.2 = y_6.2))) && y_35) (.sc (.bool (decide (y_8.2 = y_9.2))))),[]⟩,⟨[34,37],0,0,some (121,.sc (.bool (((((y_33 == y_34) && (decide (y_5.1 = y_6.1))) && (decide (y_5.2 = y_6.2))) && y_35) && (decide (y_8.2 = y_9.2))))),[]⟩,⟨[38],0,0,some (122,.sc (.bool (((((y_33 == y_34) && (decide (y_5.1 = y_6.1))) && (decide (y_5.2 = y_6.2))) && y_35) && (decide (y_8.2 = y_9.2))))),[]⟩,⟨[39,9],0,0,some (123,.gd (((((y_33 == y_34) && (decide (y_5.1 = y_6.1))) && (decide (y_5.2 = y_6.2))) && y_35) && (decide (y_8.2 = y_9.2))) (.rd false y_11.1.length (y_11.1.flatMap (encI .i64)))),[]⟩,⟨[39,11],0,0,some (124,.gd (((((y_33 == y_34) && (decide (y_5.1 = y_6.1))) && (decide (y_5.2 = y_6.2))) && y_35) && (decide (y_8.2 = y_9.2))) (.rd false y_12.1.length (y_12.1.flatMap (encI .i64)))),[]⟩,⟨[39,40,41],0,0,some (125,.gd (((((y_33 == y_34) && (decide (y_5.1 = y_6.1))) && (decide (y_5.2 = y_6.2))) && y_35) && (decide (y_8.2 = y_9.2))) (.sc (.bool y_36))),[]⟩,⟨[39,42],0,0,some (126,.sc (.bool ((((((y_33 == y_34) && (decide (y_5.1 = y_6.1))) && (decide (y_5.2 = y_6.2))) && y_35) && (decide (y_8.2 = y_9.2))) && y_36))),[]⟩,⟨[43],0,0,some (127,.sc (.bool ((((((y_33 == y_34) && (decide (y_5.1 = y_6.1))) && (decide (y_5.2 = y_6.2))) && y_35) && (decide (y_8.2 = y_9.2))) && y_36))),[]⟩,⟨[44,10],0,0,some (128,.gd ((((((y_33 == y_34) && (decide (y_5.1 = y_6.1))) && (decide (y_5.2 = y_6.2))) && y_35) && (decide (y_8.2 = y_9.2))) && y_36) (.sc (.int .i64 y_11.2))),[]⟩,⟨[44,12],0,0,some (129,.gd ((((((y_33 == y_34) && (decide (y_5.1 = y_6.1))) && (decide (y_5.2 = y_6.2))) && y_35) && (decide (y_8.2 = y_9.2))) && y_36) (.sc (.int .i64 y_12.2))),[]⟩,⟨[44,45,46],0,0,some (130,.gd ((((((y_33 == y_34) && (decide (y_5.1 = y_6.1))) && (decide (y_5.2 = y_6.2))) && y_35) && (decide (y_8.2 = y_9.2))) && y_36) (.sc (.bool (decide (y_11.2 = y_12.2))))),[]⟩,⟨[44,47],0,0,some (131,.sc (.bool (((((((y_33 == y_34) && (decide (y_5.1 = y_6.1))) && (decide (y_5.2 = y_6.2))) && y_35) && (decide (y_8.2 = y_9.2))) && y_36) && (decide (y_11.2 = y_12.2))))),[]⟩,⟨[48],0,0,some (4,.sc (.bool (((((((y_33 == y_34) && (decide (y_5.1 = y_6.1))) && (decide (y_5.2 = y_6.2))) && y_35) && (decide (y_8.2 = y_9.2))) && y_36) && (decide (y_11.2 = y_12.2))))),[]⟩] [] [[(1,⟨25,false,[.rd β1 a0.Points.length (a0.Points.flatMap encR45),.rd β2 a0.Before.length (a0.Before.flatMap encR93)]⟩)]] [[],[0],[0,1],[],[0,1,2,3],[0,1,2,3,4],[0,1,2,3,4,5],[0,1,2,3,4,5,6],[0,1,2,3,4,5,6],[0,1,2,3,4,5,6,7,8],[0,1,2,3,4,5,6,7,8,9],[0,1,2,3,4,5,6,7,8,9,10],[0,1,2,3,4,5,6,7,8,9,10,11],[0,1,2,3,4,5,6,7,8,9,10,11],[0,1,2,3,4,5,6,7,8,9,10,11,12,13],[0,1,2,3,4,5,6,7,8,9,10,11,12,13,14],[0,1,2,3,4,5,6,7,8,9,10,11,12,13,14,15],[0,1,2,3,4,5,6,7,8,9,10,11,12,13,14,15,16],[0,1,2,3,4,5,6,7,8,9,10,11,12,13,14,15,16],[0,1,2,3,4,5,6,7,8,9,10,11,12,13,14,15,16,17,18],[0,1,2,3,4,5,6,7,8,9,10,11,12,13,14,15,16,17,18,19],[0,1,2,3,4,5,6,7,8,9,10,11,12,13,14,15,16,17,18,19,20],[0,1,2,3,4,5,6,7,8,9,10,11,12,13,14,15,16,17,18,19,20,21],[0,1,2,3,4,5,6,7,8,9,10,11,12,13,14,15,16,17,18,19,20,21],[0,1,2,3,4,5,6,7,8,9,10,11,12,13,14,15,16,17,18,19,20,21,22,23],[0,1,2,3,4,5,6,7,8,9,10,11,12,13,14,15,16,17,18,19,20,21,22,23,24],[0,1,2,3,4,5,6,7,8,9,10,11,12,13,14,15,16,17,18,19,20,21,22,23,24,25],[0,1,2,3,4,5,6,7,8,9,10,11,12,13,14,15,16,17,18,19,20,21,22,23,24,25,26],[0,1,2,3,4,5,6,7,8,9,10,11,12,13,14,15,16,17,18,19,20,21,22,23,24,25,26],[0,1,2,3,4,5,6,7,8,9,10,11,12,13,14,15,16,17,18,19,20,21,22,23,24,25,26,27,28],[0,1,2,3,4,5,6,7,8,9,10,11,12,13,14,15,16,17,18,19,20,21,22,23,24,25,26,27,28,29],[0,1,2,3,4,5,6,7,8,9,10,11,12,13,14,15,16,17,18,19,20,21,22,23,24,25,26,27,28,29,30],[0,1,2,3,4,5,6,7,8,9,10,11,12,13,14,15,16,17,18,19,20,21,22,23,24,25,26,27,28,29,30,31],[0,1,2,3,4,5,6,7,8,9,10,11,12,13,14,15,16,17,18,19,20,21,22,23,24,25,26,27,28,29,30,31],[0,1,2,3,4,5,6,7,8,9,10,11,12,13,14,15,16,17,18,19,20,21,22,23,24,25,26,27,28,29,30,31,32,33],[0,1,2,3,4,5,6,7,8,9,10,11,12,13,14,15,16,17,18,19,20,21,22,23,24,25,26,27,28,29,30,31,32,33,34],[0,1,2,3,4,5,6,7,8,9,10,11,12,13,14,15,16,17,18,19,20,21,22,23,24,25,26,27,28,29,30,31,32,33,34,35]] (by kernel_rfl) (by kernel_rfl) (BornL.ok (.o<| .o<| .o<| .o<| .o<| .o<| .o<| .o<| .o<| .o<| .o<| .o<| .o<| .b rfl rfl<| .b rfl rfl<| .b rfl rfl<| .b rfl rfl<| .b rfl rfl<| .b rfl rfl<| .b rfl rfl<| .b rfl rfl<| .b rfl rfl<| .b rfl rfl<| .b rfl rfl<| .b rfl rfl<| .b rfl rfl<| .b rfl rfl<| .b rfl rfl<| .b rfl rfl<| .b rfl rfl<| .b rfl rfl<| .b rfl rfl<| .b rfl rfl<| .b rfl rfl<| .b rfl rfl<| .b rfl rfl<| .b rfl rfl<| .b rfl rfl<| .b rfl rfl<| .b rfl rfl<| .b rfl rfl<| .b rfl rfl<| .b rfl rfl<| .b rfl rfl<| .b rfl rfl<| .b rfl rfl<| .b rfl rfl<| .b rfl rfl<| .b rfl rfl<| .b rfl rfl<| .n)) (BaseL.ok (.o rfl<| .o rfl<| .o rfl<| .o rfl<| .o rfl<| .o rfl<| .o rfl<| .o rfl<| .o rfl<| .o rfl<| .o rfl<| .o rfl<| .o rfl<| .b<| .b<| .b<| .b<| .b<| .b<| .b<| .b<| .b<| .b<| .b<| .b<| .b<| .b<| .b<| .b<| .b<| .b<| .b<| .b<| .b<| .b<| .b<| .b<| .b<| .b<| .b<| .b<| .b<| .b<| .b<| .b<| .b<| .b<| .b<| .b<| .b<| .n)) rfl (by decide) (allLt rfl) (.read rfl (.c (.put (fun E hE => .loadPA (lt1 rfl) (.tmp (hE.at (k := 0) rfl)) agg25 rfl rfl rfl rfl)) .n)<| .pure rfl (fun H => .put (fun E hE => .call0 (bw := false) (lt1 rfl) (c14 (β1 := β1) (β2 := β2) n (R24.mk a0.Points a0.Before) hy_32) (.cons (.tmp (hE.at (k := 0) rfl)) (.ren rfl) (.nil)) rfl))<| .pure rfl (fun H => .put (fun E hE => .call0 (bw := false) (lt1 rfl) (c22 (β1 := β1) (β2 := β2) n (R24.mk y_32.Points y_32.Before) hy_33) (.cons (.tmp (hE.at (k := 0) rfl)) (.ren rfl) (.nil)) rfl))<| .read rfl (.c (.put (fun E hE => .loadPA (lt1 rfl) (.tmp (hE.at (k := 0) rfl)) agg25 rfl rfl rfl rfl)) .n)<| .pure rfl (fun H => .put (fun E hE => .call0 (bw := false) (lt1 rfl) (c15 (β1 := β1) (β2 := β2) n (R24.mk a0.Points a0.Before) hy_34) (.cons (.tmp (hE.at (k := 0) rfl)) (.ren rfl) (.nil)) rfl))<| .pure rfl (fun H => .put (fun E hE => .eqlB (lt1 rfl) (.tmp (hE.at (k := 0) rfl)) (.tmp (hE.at (k := 1) rfl)) Try.underlying4))<| .pure rfl (fun H => .put (fun E hE => .move (lt1 rfl) (.tmp (hE.at (k := 0) rfl))))<| .pure rfl (fun H => .gput (b := (y_33 == y_34)) (want := true) (j := 6) (dj := 102) rfl (lt1 rfl) (lt1 rfl) (fun E hE => hE.at (k := 0) rfl) (fun hg E hE => .move (lt1 rfl) (.tmp (hE.at (k := 1) rfl))))<| .pure rfl (fun H => .gput (b := (y_33 == y_34)) (want := true) (j := 6) (dj := 102) rfl (lt1 rfl) (lt1 rfl) (fun E hE => hE.at (k := 0) rfl) (fun hg E hE => .move (lt1 rfl) (.tmp (hE.at (k := 1) rfl))))<| .pure rfl (fun H => .gput (b := (y_33 == y_34)) (want := true) (j := 6) (dj := 102) rfl (lt1 rfl) (lt1 rfl) (fun E hE => hE.at (k := 0) rfl) (fun hg E hE => .eql (lt1 rfl) (.gd hg (.tmp (hE.at (k := 1) rfl))) (.gd hg (.tmp (hE.at (k := 2) rfl)))))<| .pure rfl (fun H => .put (fun E hE => .pickAnd (lt1 rfl) (.tmp (hE.at (k := 0) rfl)) (.tmp (hE.at (k := 1) rfl)) (.const _ _ _)))<| .pure rfl (fun H => .put (fun E hE => .move (lt1 rfl) (.tmp (hE.at (k := 0) rfl))))<| .pure rfl (fun H => .gput (b := ((y_33 == y_34) && (decide (y_5.1 = y_6.1)))) (want := true) (j := 11) (dj := 107) rfl (lt1 rfl) (lt1 rfl) (fun E hE => hE.at (k := 0) rfl) (fun hg E hE => .move (lt1 rfl) (.tmp (hE.at (k := 1) rfl))))<| .pure rfl (fun H => .gput (b := ((y_33 == y_34) && (decide (y_5.1 = y_6.1)))) (want := true) (j := 11) (dj := 107) rfl (lt1 rfl) (lt1 rfl) (fun E hE => hE.at (k := 0) rfl) (fun hg E hE => .move (lt1 rfl) (.tmp (hE.at (k := 1) rfl))))<| .pure rfl (fun H => .gput (b := ((y_33 == y_34) && (decide (y_5.1 = y_6.1)))) (want := true) (j := 11) (dj := 107) rfl (lt1 rfl) (lt1 rfl) (fun E hE => hE.at (k := 0) rfl) (fun hg E hE => .eql (lt1 rfl) (.gd hg (.tmp (hE.at (k := 1) rfl))) (.gd hg (.tmp (hE.at (k := 2) rfl)))))<| .pure rfl (fun H => .put (fun E hE => .pickAnd (lt1 rfl) (.tmp (hE.at (k := 0) rfl)) (.tmp (hE.at (k := 1) rfl)) (.const _ _ _)))<| .pure rfl (fun H => .put (fun E hE => .move (lt1 rfl) (.tmp (hE.at (k := 0) rfl))))<| .pure rfl (fun H => .gput (b := (((y_33 == y_34) && (decide (y_5.1 = y_6.1))) && (decide (y_5.2 = y_6.2)))) (want := true) (j := 16) (dj := 112) rfl (lt1 rfl) (lt1 rfl) (fun E hE => hE.at (k := 0) rfl) (fun hg E hE => .move (lt1 rfl) (.tmp (hE.at (k := 1) rfl))))<| .pure rfl (fun H => .gput (b := (((y_33 == y_34) && (decide (y_5.1 = y_6.1))) && (decide (y_5.2 = y_6.2)))) (want := true) (j := 16) (dj := 112) rfl (lt1 rfl) (lt1 rfl) (fun E hE => hE.at (k := 0) rfl) (fun hg E hE => .move (lt1 rfl) (.tmp (hE.at (k := 1) rfl))))<| .pure rfl (fun H => .gput (b := (((y_33 == y_34) && (decide (y_5.1 = y_6.1))) && (decide (y_5.2 = y_6.2)))) (want := true) (j := 16) (dj := 112) rfl (lt1 rfl) (lt1 rfl) (fun E hE => hE.at (k := 0) rfl) (fun hg E hE => .call0 (bw := false) (lt1 rfl) (c17 (β1 := false) (β2 := false) n y_8.1 y_9.1 (gdB hy_35 hg)) (.cons (.gd hg (.tmp (hE.at (k := 1) rfl))) (.ren rfl) (.cons (.gd hg (.tmp (hE.at (k := 2) rfl))) (.ren rfl) (.nil))) rfl))<| .pure rfl (fun H => .put (fun E hE => .pickAnd (lt1 rfl) (.tmp (hE.at (k := 0) rfl)) (.tmp (hE.at (k := 1) rfl)) (.const _ _ _)))<| .pure rfl (fun H => .put (fun E hE => .move (lt1 rfl) (.tmp (hE.at (k := 0) rfl))))<| .pure rfl (fun H => .gput (b := ((((y_33 == y_34) && (decide (y_5.1 = y_6.1))) && (decide (y_5.2 = y_6.2))) && y_35)) (want := true) (j := 21) (dj := 117) rfl (lt1 rfl) (lt1 rfl) (fun E hE => hE.at (k := 0) rfl) (fun hg E hE => .move (lt1 rfl) (.tmp (hE.at (k := 1) rfl))))<| .pure rfl (fun H => .gput (b := ((((y_33 == y_34) && (decide (y_5.1 = y_6.1))) && (decide (y_5.2 = y_6.2))) && y_35)) (want := true) (j := 21) (dj := 117) rfl (lt1 rfl) (lt1 rfl) (fun E hE => hE.at (k := 0) rfl) (fun hg E hE => .move (lt1 rfl) (.tmp (hE.at (k := 1) rfl))))<| .pure rfl (fun H => .gput (b := ((((y_33 == y_34) && (decide (y_5.1 = y_6.1))) && (decide (y_5.2 = y_6.2))) && y_35)) (want := true) (j := 21) (dj := 117) rfl (lt1 rfl) (lt1 rfl) (fun E hE => hE.at (k := 0) rfl) (fun hg E hE => .eql (lt1 rfl) (.gd hg (.tmp (hE.at (k := 1) rfl))) (.gd hg (.tmp (hE.at (k := 2) rfl)))))<| .pure rfl (fun H => .put (fun E hE => .pickAnd (lt1 rfl) (.tmp (hE.at (k := 0) rfl)) (.tmp (hE.at (k := 1) rfl)) (.const _ _ _)))<| .pure rfl (fun H => .put (fun E hE => .move (lt1 rfl) (.tmp (hE.at (k := 0) rfl))))<| .pure rfl (fun H => .gput (b := (((((y_33 == y_34) && (decide (y_5.1 = y_6.1))) && (decide (y_5.2 = y_6.2))) && y_35) && (decide (y_8.2 = y_9.2)))) (want := true) (j := 26) (dj := 122) rfl (lt1 rfl) (lt1 rfl) (fun E hE => hE.at (k := 0) rfl) (fun hg E hE => .move (lt1 rfl) (.tmp (hE.at (k := 1) rfl))))<| .pure rfl (fun H => .gput (b := (((((y_33 == y_34) && (decide (y_5.1 = y_6.1))) && (decide (y_5.2 = y_6.2))) && y_35) && (decide (y_8.2 = y_9.2)))) (want := true) (j := 26) (dj := 122) rfl (lt1 rfl) (lt1 rfl) (fun E hE => hE.at (k := 0) rfl) (fun hg E hE => .move (lt1 rfl) (.tmp (hE.at (k := 1) rfl))))<| .pure rfl (fun H => .gput (b := (((((y_33 == y_34) && (decide (y_5.1 = y_6.1))) && (decide (y_5.2 = y_6.2))) && y_35) && (decide (y_8.2 = y_9.2)))) (want := true) (j := 26) (dj := 122) rfl (lt1 rfl) (lt1 rfl) (fun E hE => hE.at (k := 0) rfl) (fun hg E hE => .call0 (bw := false) (lt1 rfl) (c17 (β1 := false) (β2 := false) n y_11.1 y_12.1 (gdB hy_36 hg)) (.cons (.gd hg (.tmp (hE.at (k := 1) rfl))) (.ren rfl) (.cons (.gd hg (.tmp (hE.at (k := 2) rfl))) (.ren rfl) (.nil))) rfl))<| .pure rfl (fun H => .put (fun E hE => .pickAnd (lt1 rfl) (.tmp (hE.at (k := 0) rfl)) (.tmp (hE.at (k := 1) rfl)) (.const _ _ _)))<| .pure rfl (fun H => .put (fun E hE => .move (lt1 rfl) (.tmp (hE.at (k := 0) rfl))))<| .pure rfl (fun H => .gput (b := ((((((y_33 == y_34) && (decide (y_5.1 = y_6.1))) && (decide (y_5.2 = y_6.2))) && y_35) && (decide (y_8.2 = y_9.2))) && y_36)) (want := true) (j := 31) (dj := 127) rfl (lt1 rfl) (lt1 rfl) (fun E hE => hE.at (k := 0) rfl) (fun hg E hE => .move (lt1 rfl) (.tmp (hE.at (k := 1) rfl))))<| .pure rfl (fun H => .gput (b := ((((((y_33 == y_34) && (decide (y_5.1 = y_6.1))) && (decide (y_5.2 = y_6.2))) && y_35) && (decide (y_8.2 = y_9.2))) && y_36)) (want := true) (j := 31) (dj := 127) rfl (lt1 rfl) (lt1 rfl) (fun E hE => hE.at (k := 0) rfl) (fun hg E hE => .move (lt1 rfl) (.tmp (hE.at (k := 1) rfl))))<| .pure rfl (fun H => .gput (b := ((((((y_33 == y_34) && (decide (y_5.1 = y_6.1))) && (decide (y_5.2 = y_6.2))) && y_35) && (decide (y_8.2 = y_9.2))) && y_36)) (want := true) (j := 31) (dj := 127) rfl (lt1 rfl) (lt1 rfl) (fun E hE => hE.at (k := 0) rfl) (fun hg E hE => .eql (lt1 rfl) (.gd hg (.tmp (hE.at (k := 1) rfl))) (.gd hg (.tmp (hE.at (k := 2) rfl)))))<| .pure rfl (fun H => .put (fun E hE => .pickAnd (lt1 rfl) (.tmp (hE.at (k := 0) rfl)) (.tmp (hE.at (k := 1) rfl)) (.const _ _ _)))<| .pure rfl (fun H => .put (fun E hE => .assign (lt1 rfl) (.tmp (hE.at (k := 0) rfl))))<| .nil _) (fun E hE => .c (DInv.at hE (k := 49) rfl rfl rfl)<| .n _) rfl ?_
      refine AWP.ret ?_
      obtain rfl := Option.some.inj h
      refine retJ (Res.vc (s' := ⟨[(4,.sc (.bool (((((((y_33 == y_34) && (decide (y_5.1 = y_6.1))) && (decide (y_5.2 = y_6.2))) && y_35) && (decide (y_8.2 = y_9.2))) && y_36) && (decide (y_11.2 = y_12.2)))))],[]⟩) (VC.sub (.c rfl<| .n _) (.n _)) ?_)
      refine Res.drop (H := []) rfl ?_
      exact Res.of rfl (.cons (.tmp rfl) (.nil)) rfl rfl
    · refine AWP.vc (s' := ⟨[(2,.ptr 1 0),(5,.sc (.int .i64 y_5.1)),(6,.sc (.int .i64 y_5.2)),(7,.sc (.int .i64 y_6.1)),(8,.sc (.int .i64 y_6.2)),(9,.rd false y_8.1.length (y_8.1.flatMap (encI .i64))),(10,.sc (.int .i64 y_8.2)),(11,.rd false y_9.1.length (y_9.1.flatMap (encI .i64))),(12,.sc (.int .i64 y_9.2)),(13,.rd false y_11.1.length (y_11.1.flatMap (encI .i64))),(14,.sc (.int .i64 y_11.2)),(15,.rd false y_12.1.length (y_12.1.flatMap (encI .i64))),(16,.sc (.int .i64 y_12.2)),(70,.sc (.int .i64 (a0.Points.length : Int))),(71,.sc (.int .i64 (0 : Int)))],[(1,⟨25,false,[.rd β1 a0.Points.length (a0.Points.flatMap encR45),.rd β2 a0.Before.length (a0.Before.flatMap encR93)]⟩)]⟩) (VC.sub (.c rfl<| .c rfl<| .c rfl<| .c rfl<| .c rfl<| .c rfl<| .c rfl<| .c rfl<| .c rfl<| .c rfl<| .c rfl<| .c rfl<| .c rfl<| .c rfl<| .c rfl<| .n _) (.c rfl<| .n _)) ?_
      refine AWP.loopM (S := fun x_21 : Int => ⟨[(2,.ptr 1 0),(5,.sc (.int .i64 y_5.1)),(6,.sc (.int .i64 y_5.2)),(7,.sc (.int .i64 y_6.1)),(8,.sc (.int .i64 y_6.2)),(9,.rd false y_8.1.length (y_8.1.flatMap (encI .i64))),(10,.sc (.int .i64 y_8.2)),(11,.rd false y_9.1.length (y_9.1.flatMap (encI .i64))),(12,.sc (.int .i64 y_9.2)),(13,.rd false y_11.1.length (y_11.1.flatMap (encI .i64))),(14,.sc (.int .i64 y_11.2)),(15,.rd false y_12.1.length (y_12.1.flatMap (encI .i64))),(16,.sc (.int .i64 y_12.2)),(70,.sc (.int .i64 (a0.Points.length : Int))),(71,.sc (.int .i64 x_21))],[(1,⟨25,false,[.rd β1 a0.Points.length (a0.Points.flatMap encR45),.rd β2 a0.Before.length (a0.Before.flatMap encR93)]⟩)]⟩) (x := (0 : Int)) (fun nx_22 x_21 h => ?_) h
      unfold m8_L1 at h
      refine AWP.seq ?_
      refine AWP.region (.cons (.lss (lt1 rfl) (.tmp rfl) (.tmp rfl))<| ARun.nil _ _ _) ?_
      refine AWP.vc (s' := ⟨[(2,.ptr 1 0),(5,.sc (.int .i64 y_5.1)),(6,.sc (.int .i64 y_5.2)),(7,.sc (.int .i64 y_6.1)),(8,.sc (.int .i64 y_6.2)),(9,.rd false y_8.1.length (y_8.1.flatMap (encI .i64))),(10,.sc (.int .i64 y_8.2)),(11,.rd false y_9.1.length (y_9.1.flatMap (encI .i64))),(12,.sc (.int .i64 y_9.2)),(13,.rd false y_11.1.length (y_11.1.flatMap (encI .i64))),(14,.sc (.int .i64 y_11.2)),(15,.rd false y_12.1.length (y_12.1.flatMap (encI .i64))),(16,.sc (.int .i64 y_12.2)),(70,.sc (.int .i64 (a0.Points.length : Int))),(71,.sc (.int .i64 x_21)),(72,.sc (.bool (decide (x_21 < (a0.Points.length : Int)))))],[(1,⟨25,false,[.rd β1 a0.Points.length (a0.Points.flatMap encR45),.rd β2 a0.Before.length (a0.Before.flatMap encR93)]⟩)]⟩) (VC.sub (.c rfl<| .c rfl<| .c rfl<| .c rfl<| .c rfl<| .c rfl<| .c rfl<| .c rfl<| .c rfl<| .c rfl<| .c rfl<| .c rfl<| .c rfl<| .c rfl<| .c rfl<| .c rfl<| .n _) (.c rfl<| .n _)) ?_
      refine AWP.seq ?_
      refine AWP.cond (.tmp rfl) (fun hc => ?_) (fun hc => ?_)
      · have h := iteT hc h
        refine AWP.skip ?_
        refine AWP.seq ?_
        refine AWP.block ?_
        refine AWP.seq ?_
        refine AWP.region (.cons (.move (lt1 rfl) (.tmp rfl))<| .cons (.assign (lt1 rfl) (.tmp rfl))<| ARun.nil _ _ _) ?_
        refine AWP.vc (s' := ⟨[(2,.ptr 1 0),(5,.sc (.int .i64 y_5.1)),(6,.sc (.int .i64 y_5.2)),(7,.sc (.int .i64 y_6.1)),(8,.sc (.int .i64 y_6.2)),(9,.rd false y_8.1.length (y_8.1.flatMap (encI .i64))),(10,.sc (.int .i64 y_8.2)),(11,.rd false y_9.1.length (y_9.1.flatMap (encI .i64))),(12,.sc (.int .i64 y_9.2)),(13,.rd false y_11.1.length (y_11.1.flatMap (encI .i64))),(14,.sc (.int .i64 y_11.2)),(15,.rd false y_12.1.length (y_12.1.flatMap (encI .i64))),(16,.sc (.int .i64 y_12.2)),(70,.sc (.int .i64 (a0.Points.length : Int))),(71,.sc (.int .i64 x_21)),(17,.sc (.int .i64 x_21))],[(1,⟨25,false,[.rd β1 a0.Points.length (a0.Points.flatMap encR45),.rd β2 a0.Before.length (a0.Before.flatMap encR93)]⟩)]⟩) (VC.sub (.c rfl<| .c rfl<| .c rfl<| .c rfl<| .c rfl<| .c rfl<| .c rfl<| .c rfl<| .c rfl<| .c rfl<| .c rfl<| .c rfl<| .c rfl<| .c rfl<| .c rfl<| .c rfl<| .n _) (.c rfl<| .n _)) ?_
        refine AWP.seq ?_
        obtain ⟨y_23,hy_23,h⟩ := bindS h
        obtain ⟨y_24,hy_24,h⟩ := bindS h
        obtain ⟨y_25,hy_25,h⟩ := bindS h
        obtain ⟨y_26,hy_26,h⟩ := bindS h
        obtain ⟨y_27,hy_27,h⟩ := bindS h
        obtain ⟨y_28,hy_28,h⟩ := bindS h
        refine AWP.draw (s' := ⟨[(2,.ptr 1 0),(5,.sc (.int .i64 y_5.1)),(6,.sc (.int .i64 y_5.2)),(7,.sc (.int .i64 y_6.1)),(8,.sc (.int .i64 y_6.2)),(9,.rd false y_8.1.length (y_8.1.flatMap (encI .i64))),(10,.sc (.int .i64 y_8.2)),(11,.rd false y_9.1.length (y_9.1.flatMap (encI .i64))),(12,.sc (.int .i64 y_9.2)),(13,.rd false y_11.1.length (y_11.1.flatMap (encI .i64))),(14,.sc (.int .i64 y_11.2)),(15,.rd false y_12.1.length (y_12.1.flatMap (encI .i64))),(16,.sc (.int .i64 y_12.2)),(70,.sc (.int .i64 (a0.Points.length : Int))),(71,.sc (.int .i64 x_21)),(94,.sc (.bool (!decide (y_25 = y_28))))],[(1,⟨25,false,[.rd β1 a0.Points.length (a0.Points.flatMap encR45),.rd β2 a0.Before.length (a0.Before.flatMap encR93)]⟩)]⟩) mixed [⟨2,.ptr 1 0,none,[]⟩,⟨5,.sc (.int .i64 y_5.1),none,[]⟩,⟨6,.sc (.int .i64 y_5.2),none,[]⟩,⟨7,.sc (.int .i64 y_6.1),none,[]⟩,⟨8,.sc (.int .i64 y_6.2),none,[]⟩,⟨9,.rd false y_8.1.length (y_8.1.flatMap (encI .i64)),none,[]⟩,⟨10,.sc (.int .i64 y_8.2),none,[]⟩,⟨11,.rd false y_9.1.length (y_9.1.flatMap (encI .i64)),none,[]⟩,⟨12,.sc (.int .i64 y_9.2),none,[]⟩,⟨13,.rd false y_11.1.length (y_11.1.flatMap (encI .i64)),none,[]⟩,⟨14,.sc (.int .i64 y_11.2),none,[]⟩,⟨15,.rd false y_12.1.length (y_12.1.flatMap (encI .i64)),none,[]⟩,⟨16,.sc (.int .i64 y_12.2),none,[]⟩,⟨17,.sc (.int .i64 x_21),none,[]⟩,⟨70,.sc (.int .i64 (a0.Points.length : Int)),none,[]⟩,⟨71,.sc (.int .i64 x_21),none,[]⟩,⟨74,.ptr 1 (0 + 0),some 0,[]⟩,⟨75,.rd β1 a0.Points.length (a0.Points.flatMap encR45),some 1,[]⟩,⟨76,.rptr β1 [.sc (.int .i64 y_23.X),.sc (.int .i64 y_23.Y)],some 2,[]⟩,⟨77,.agg [.sc (.int .i64 y_23.X),.sc (.int .i64 y_23.Y)],some 3,[]⟩,⟨78,.ptr 1 (0 + 0),some 4,[]⟩,⟨79,.rd β1 a0.Points.length (a0.Points.flatMap encR45),some 5,[]⟩,⟨80,.sc (.int .i64 x_21),some 6,[]⟩,⟨81,.rptr β1 [.sc (.int .i64 y_24.X),.sc (.int .i64 y_24.Y)],some 7,[]⟩,⟨82,.agg [.sc (.int .i64 y_24.X),.sc (.int .i64 y_24.Y)],some 8,[]⟩,⟨83,.sc (.int .i64 y_25),some 9,[]⟩,⟨84,.ptr 1 (0 + 0),some 10,[]⟩,⟨85,.rd β1 a0.Points.length (a0.Points.flatMap encR45),some 11,[]⟩,⟨86,.rptr β1 [.sc (.int .i64 y_26.X),.sc (.int .i64 y_26.Y)],some 12,[]⟩,⟨87,.agg [.sc (.int .i64 y_26.X),.sc (.int .i64 y_26.Y)],some 13,[]⟩,⟨88,.ptr 1 (0 + 0),some 14,[]⟩,⟨89,.rd β1 a0.Points.length (a0.Points.flatMap encR45),some 15,[]⟩,⟨90,.sc (.int .i64 x_21),some 16,[]⟩,⟨91,.rptr β1 [.sc (.int .i64 y_27.X),.sc (.int .i64 y_27.Y)],some 17,[]⟩,⟨92,.agg [.sc (.int .i64 y_27.X),.sc (.int .i64 y_27.Y)],some 18,[]⟩,⟨93,.sc (.int .i64 y_28),some 19,[]⟩,⟨94,.sc (.bool (!decide (y_25 = y_28))),some 20,[]⟩] [⟨[0],0,0,some (74,.ptr 1 (0 + 0)),[]⟩,⟨[16],0,0,some (75,.rd β1 a0.Points.length (a0.Points.flatMap encR45)),[]⟩,⟨[17],0,0,some (76,.rptr β1 [.sc (.int .i64 y_23.X),.sc (.int .i64 y_23.Y)]),[]⟩,⟨[18],0,0,some (77,.agg [.sc (.int .i64 y_23.X),.sc (.int .i64 y_23.Y)]),[]⟩,⟨[0],0,0,some (78,.ptr 1 (0 + 0)),[]⟩,⟨[20],0,0,some (79,.rd β1 a0.Points.length (a0.Points.flatMap encR45)),[]⟩,⟨[13],0,0,some (80,.sc (.int .i64 x_21)),[]⟩,⟨[21,22],0,0,some (81,.rptr β1 [.sc (.int .i64 y_24.X),.sc (.int .i64 y_24.Y)]),[]⟩,⟨[23],0,0,some (82,.agg [.sc (.int .i64 y_24.X),.sc (.int .i64 y_24.Y)]),[]⟩,⟨[19,24],0,0,some (83,.sc (.int .i64 y_25)),[]⟩,⟨[0],0,0,some (84,.ptr 1 (0 + 0)),[]⟩,⟨[26],0,0,some (85,.rd β1 a0.Points.length (a0.Points.flatMap encR45)),[]⟩,⟨[27],0,0,some (86,.rptr β1 [.sc (.int .i64 y_26.X),.sc (.int .i64 y_26.Y)]),[]⟩,⟨[28],0,0,some (87,.agg [.sc (.int .i64 y_26.X),.sc (.int .i64 y_26.Y)]),[]⟩,⟨[0],0,0,some (88,.ptr 1 (0 + 0)),[]⟩,⟨[30],0,0,some (89,.rd β1 a0.Points.length (a0.Points.flatMap encR45)),[]⟩,⟨[13],0,0,some (90,.sc (.int .i64 x_21)),[]⟩,⟨[31,32],0,0,some (91,.rptr β1 [.sc (.int .i64 y_27.X),.sc (.int .i64 y_27.Y)]),[]⟩,⟨[33],0,0,some (92,.agg [.sc (.int .i64 y_27.X),.sc (.int .i64 y_27.Y)]),[]⟩,⟨[29,34],0,0,some (93,.sc (.int .i64 y_28)),[]⟩,⟨[25,35],0,0,some (94,.sc (.bool (!decide (y_25 = y_28)))),[]⟩] [] [[(1,⟨25,false,[.rd β1 a0.Points.length (a0.Points.flatMap encR45),.rd β2 a0.Before.length (a0.Before.flatMap encR93)]⟩)]] [[],[0],[0,1],[0,1,2],[],[4],[],[4,5,6],[4,5,6,7],[0,1,2,3,4,5,6,7,8],[],[10],[10,11],[10,11,12],[],[14],[],[14,15,16],[14,15,16,17],[0,1,2,3,4,5,6,7,8,9,10,11,12,13,14,15,16,17,18],[0,1,2,3,4,5,6,7,8,9,10,11,12,13,14,15,16,17,18,19]] (by kernel_rfl) (by kernel_rfl) (BornL.ok (.o<| .o<| .o<| .o<| .o<| .o<| .o<| .o<| .o<| .o<| .o<| .o<| .o<| .o<| .o<| .o<| .b rfl rfl<| .b rfl rfl<| .b rfl rfl<| .b rfl rfl<| .b rfl rfl<| .b rfl rfl<| .b rfl rfl<| .b rfl rfl<| .b rfl rfl<| .b rfl rfl<| .b rfl rfl<| .b rfl rfl<| .b rfl rfl<| .b rfl rfl<| .b rfl rfl<| .b rfl rfl<| .b rfl rfl<| .b rfl rfl<| .b rfl rfl<| .b rfl rfl<| .b rfl rfl<| .n)) (BaseL.ok (.o rfl<| .o rfl<| .o rfl<| .o rfl<| .o rfl<| .o rfl<| .o rfl<| .o rfl<| .o rfl<| .o rfl<| .o rfl<| .o rfl<| .o rfl<| .o rfl<| .o rfl<| .o rfl<| .b<| .b<| .b<| .b<| .b<| .b<| .b<| .b<| .b<| .b<| .b<| .b<| .b<| .b<| .b<| .b<| .b<| .b<| .b<| .b<| .b<| .n)) rfl (by decide) (allLt rfl) (.read rfl (.c (.put (fun E hE => .fieldP (lt1 rfl) (.tmp (hE.at (k := 0) rfl)) fld25_0)) .n)<| .read rfl (.c (.put (fun E hE => .loadP (lt1 rfl) (.tmp (hE.at (k := 0) rfl)) one22 rfl rfl rfl)) .n)<| .pure rfl (fun H => .put (fun E hE => .indexRd (enc := encR45) (lt1 rfl) (.tmp (hE.at (k := 0) rfl)) (.const _ _ _) Try.underlying22 sz46 encR45_len rfl hy_23))<| .pure rfl (fun H => .put (fun E hE => .loadRA (out := [.sc (.int .i64 y_23.X),.sc (.int .i64 y_23.Y)]) (lt1 rfl) (.tmp (hE.at (k := 0) rfl)) agg46 (Nat.le_of_eq (Eq.symm (encR45_len _))) rfl))<| .read rfl (.c (.put (fun E hE => .fieldP (lt1 rfl) (.tmp (hE.at (k := 0) rfl)) fld25_0)) .n)<| .read rfl (.c (.put (fun E hE => .loadP (lt1 rfl) (.tmp (hE.at (k := 0) rfl)) one22 rfl rfl rfl)) .n)<| .pure rfl (fun H => .put (fun E hE => .move (lt1 rfl) (.tmp (hE.at (k := 0) rfl))))<| .pure rfl (fun H => .put (fun E hE => .indexRd (enc := encR45) (lt1 rfl) (.tmp (hE.at (k := 0) rfl)) (.tmp (hE.at (k := 1) rfl)) Try.underlying22 sz46 encR45_len rfl hy_24))<| .pure rfl (fun H => .put (fun E hE => .loadRA (out := [.sc (.int .i64 y_24.X),.sc (.int .i64 y_24.Y)]) (lt1 rfl) (.tmp (hE.at (k := 0) rfl)) agg46 (Nat.le_of_eq (Eq.symm (encR45_len _))) rfl))<| .pure rfl (fun H => .put (fun E hE => .call0 (bw := false) (lt1 rfl) (c35 n (R45.mk y_23.X y_23.Y) (R45.mk y_24.X y_24.Y) hy_25) (.cons (.tmp (hE.at (k := 0) rfl)) (.ren rfl) (.cons (.tmp (hE.at (k := 1) rfl)) (.ren rfl) (.nil))) rfl))<| .read rfl (.c (.put (fun E hE => .fieldP (lt1 rfl) (.tmp (hE.at (k := 0) rfl)) fld25_0)) .n)<| .read rfl (.c (.put (fun E hE => .loadP (lt1 rfl) (.tmp (hE.at (k := 0) rfl)) one22 rfl rfl rfl)) .n)<| .pure rfl (fun H => .put (fun E hE => .indexRd (enc := encR45) (lt1 rfl) (.tmp (hE.at (k := 0) rfl)) (.const _ _ _) Try.underlying22 sz46 encR45_len rfl hy_26))<| .pure rfl (fun H => .put (fun E hE => .loadRA (out := [.sc (.int .i64 y_26.X),.sc (.int .i64 y_26.Y)]) (lt1 rfl) (.tmp (hE.at (k := 0) rfl)) agg46 (Nat.le_of_eq (Eq.symm (encR45_len _))) rfl))<| .read rfl (.c (.put (fun E hE => .fieldP (lt1 rfl) (.tmp (hE.at (k := 0) rfl)) fld25_0)) .n)<| .read rfl (.c (.put (fun E hE => .loadP (lt1 rfl) (.tmp (hE.at (k := 0) rfl)) one22 rfl rfl rfl)) .n)<| .pure rfl (fun H => .put (fun E hE => .move (lt1 rfl) (.tmp (hE.at (k := 0) rfl))))<| .pure rfl (fun H => .put (fun E hE => .indexRd (enc := encR45) (lt1 rfl) (.tmp (hE.at (k := 0) rfl)) (.tmp (hE.at (k := 1) rfl)) Try.underlying22 sz46 encR45_len rfl hy_27))<| .pure rfl (fun H => .put (fun E hE => .loadRA (out := [.sc (.int .i64 y_27.X),.sc (.int .i64 y_27.Y)]) (lt1 rfl) (.tmp (hE.at (k := 0) rfl)) agg46 (Nat.le_of_eq (Eq.symm (encR45_len _))) rfl))<| .pure rfl (fun H => .put (fun E hE => .call0 (bw := false) (lt1 rfl) (c36 n (R45.mk y_26.X y_26.Y) (R45.mk y_27.X y_27.Y) hy_28) (.cons (.tmp (hE.at (k := 0) rfl)) (.ren rfl) (.cons (.tmp (hE.at (k := 1) rfl)) (.ren rfl) (.nil))) rfl))<| .pure rfl (fun H => .put (fun E hE => .neq (lt1 rfl) (.tmp (hE.at (k := 0) rfl)) (.tmp (hE.at (k := 1) rfl))))<| .nil _) (fun E hE => .c (DInv.at hE (k := 0) rfl rfl rfl)<| .c (DInv.at hE (k := 1) rfl rfl rfl)<| .c (DInv.at hE (k := 2) rfl rfl rfl)<| .c (DInv.at hE (k := 3) rfl rfl rfl)<| .c (DInv.at hE (k := 4) rfl rfl rfl)<| .c (DInv.at hE (k := 5) rfl rfl rfl)<| .c (DInv.at hE (k := 6) rfl rfl rfl)<| .c (DInv.at hE (k := 7) rfl rfl rfl)<| .c (DInv.at hE (k := 8) rfl rfl rfl)<| .c (DInv.at hE (k := 9) rfl rfl rfl)<| .c (DInv.at hE (k := 10) rfl rfl rfl)<| .c (DInv.at hE (k := 11) rfl rfl rfl)<| .c (DInv.at hE (k := 12) rfl rfl rfl)<| .c (DInv.at hE (k := 14) rfl rfl rfl)<| .c (DInv.at hE (k := 15) rfl rfl rfl)<| .c (DInv.at hE (k := 36) rfl rfl rfl)<| .n _) rfl ?_
        refine AWP.vc (s' := ⟨[(2,.ptr 1 0),(5,.sc (.int .i64 y_5.1)),(6,.sc (.int .i64 y_5.2)),(7,.sc (.int .i64 y_6.1)),(8,.sc (.int .i64 y_6.2)),(9,.rd false y_8.1.length (y_8.1.flatMap (encI .i64))),(10,.sc (.int .i64 y_8.2)),(11,.rd false y_9.1.length (y_9.1.flatMap (encI .i64))),(12,.sc (.int .i64 y_9.2)),(13,.rd false y_11.1.length (y_11.1.flatMap (encI .i64))),(14,.sc (.int .i64 y_11.2)),(15,.rd false y_12.1.length (y_12.1.flatMap (encI .i64))),(16,.sc (.int .i64 y_12.2)),(70,.sc (.int .i64 (a0.Points.length : Int))),(71,.sc (.int .i64 x_21)),(94,.sc (.bool (!decide (y_25 = y_28))))],[(1,⟨25,false,[.rd β1 a0.Points.length (a0.Points.flatMap encR45),.rd β2 a0.Before.length (a0.Before.flatMap encR93)]⟩)]⟩) (VC.sub (.c rfl<| .c rfl<| .c rfl<| .c rfl<| .c rfl<| .c rfl<| .c rfl<| .c rfl<| .c rfl<| .c rfl<| .c rfl<| .c rfl<| .c rfl<| .c rfl<| .c rfl<| .c rfl<| .n _) (.c rfl<| .n _)) ?_
        refine AWP.cond (.tmp rfl) (fun hc => ?_) (fun hc => ?_)
        · have h := iteT hc h
          refine AWP.seq ?_
          refine AWP.region (.cons (.assign (lt1 rfl) (.const _ _ _))<| ARun.nil _ _ _) ?_
          refine AWP.ret ?_
          obtain rfl := Option.some.inj h
          refine retJ (Res.vc (s' := ⟨[(4,.sc (.bool false))],[]⟩) (VC.sub (.c rfl<| .n _) (.n _)) ?_)
          refine Res.drop (H := []) rfl ?_
          exact Res.of rfl (.cons (.tmp rfl) (.nil)) rfl rfl
        · have h := iteF hc h
          refine AWP.skip ?_
          obtain ⟨t71_29,ht71_29,h⟩ := letS h
          refine AWP.region (.cons (.add (lt1 rfl) (.tmp rfl) (.const _ _ _))<| .cons (.move (lt1 rfl) (.tmp rfl))<| ARun.nil _ _ _) ?_
          exact endJ t71_29 h (by subst ht71_29; exact VC.sub (.c rfl<| .c rfl<| .c rfl<| .c rfl<| .c rfl<| .c rfl<| .c rfl<| .c rfl<| .c rfl<| .c rfl<| .c rfl<| .c rfl<| .c rfl<| .c rfl<| .c rfl<| .n _) (.c rfl<| .n _))
      · have h := iteF hc h
        refine AWP.exit ?_
        exact endJ () h (VC.sub (.c rfl<| .c rfl<| .c rfl<| .c rfl<| .c rfl<| .c rfl<| .c rfl<| .c rfl<| .c rfl<| .c rfl<| .c rfl<| .c rfl<| .c rfl<| .n _) (.c rfl<| .n _))
end Go.AB
