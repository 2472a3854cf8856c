import Derived.Test.YtiginjokbkemcaaProg
import Derived.Test.YtiginjokbkemcaaF7b
import Derived.KernelRfl
set_option linter.unusedVariables false
set_option maxRecDepth 20000
namespace Go.AB
open Go Go.Proofs
theorem c67 {β1 : Bool} {β2 : Bool} {β3 : Bool} (n : Nat) (a0 : R24) (a1 : (List Int)) {r : Bool} (h : m67 n a0 a1 = some r) : Spec Try.prog 67 [] [.agg [.rd β1 a0.Points.length (a0.Points.flatMap encR45),.rd β2 a0.Before.length (a0.Before.flatMap encR93)],.rd β3 a1.length (a1.flatMap (encI .i64))] [] (.sc (.bool r)) [] := by
  refine Spec.of (fn := Try.f67) Try.func67 Try.ntmps67 rfl rfl (le1 rfl) (fun w0 Zs Zb T0 ι0 => ?_)
  unfold m67 at h
  refine AWP.seq ?_
  refine AWP.region (.cons (.box (t := 1) (n := 2) (lt1 rfl) (nm rfl) (.tmp rfl) (by first | exact ⟨rfl,rfl⟩ | rfl) rfl)<| .cons (.assign (lt1 rfl) (.const _ _ _))<| ARun.nil _ _ _) ?_
  refine AWP.vc (s' := ⟨[(1,.rd β3 a1.length (a1.flatMap (encI .i64))),(2,.ptr 1 0)],[(1,⟨32,false,[.rd β1 a0.Points.length (a0.Points.flatMap encR45),.rd β2 a0.Before.length (a0.Before.flatMap encR93)]⟩)]⟩) (VC.sub (.c rfl<| .c rfl<| .n _) (.c rfl<| .n _)) ?_
  refine AWP.seq ?_
  obtain ⟨y_1,hy_1,h⟩ := bindS h
  refine AWP.region (.cons (.move (lt1 rfl) (.tmp rfl))<| .cons (.lenRd (lt1 rfl) (.tmp rfl) Try.underlying28)<| .cons (.fieldP (lt1 rfl) (.tmp rfl) fld32_0)<| .cons (.loadP (lt1 rfl) (.tmp rfl) one22 rfl rfl rfl)<| .cons (.lenRd (lt1 rfl) (.tmp rfl) Try.underlying22)<| .cons (.eql (lt1 rfl) (.tmp rfl) (.tmp rfl))<| .cons (.move (lt1 rfl) (.tmp rfl))<| .guard (j := 6) (dj := 11) rfl (lt1 rfl) rfl (lt1 rfl) (fun hg => .loadPA (lt1 rfl) (.tmp rfl) agg32 rfl rfl rfl rfl)<| .guard (j := 6) (dj := 11) rfl (lt1 rfl) rfl (lt1 rfl) (fun hg => .move (lt1 rfl) (.tmp rfl))<| .guard (j := 6) (dj := 11) rfl (lt1 rfl) rfl (lt1 rfl) (fun hg => .call0 (bw := false) (lt1 rfl) (c88 (β1 := β1) (β2 := β2) (β3 := β3) n (R24.mk a0.Points a0.Before) a1 (gdB hy_1 hg)) (.cons (.gd hg (.tmp rfl)) (.ren rfl) (.cons (.gd hg (.tmp rfl)) (.ren rfl) (.nil))) rfl)<| .cons (.pickAnd (lt1 rfl) (.tmp rfl) (.tmp rfl) (.const _ _ _))<| .cons (.assign (lt1 rfl) (.tmp rfl))<| ARun.nil _ _ _) ?_
  refine AWP.ret ?_
  obtain rfl := Option.some.inj h
  refine retJ (Res.vc (s' := ⟨[(4,.sc (.bool ((decide ((a1.length : Int) = (a0.Points.length : Int))) && y_1)))],[]⟩) (VC.sub (.c rfl<| .n _) (.n _)) ?_)
  refine Res.drop (H := []) rfl ?_
  exact Res.of rfl (.cons (.tmp rfl) (.nil)) rfl rfl
theorem c29 {β1 : Bool} {β2 : Bool} {β3 : Bool} (n : Nat) (a0 : R24) (a1 : (List Int)) {r : (Int × Int)} (h : m29 n a0 a1 = some r) : Spec Try.prog 29 [] [.agg [.rd β1 a0.Points.length (a0.Points.flatMap encR45),.rd β2 a0.Before.length (a0.Before.flatMap encR93)],.rd β3 a1.length (a1.flatMap (encI .i64))] [] (.tup [.sc (.int .i64 r.1),.sc (.int .i64 r.2)]) [] := by
  refine Spec.of (fn := Try.f29) Try.func29 Try.ntmps29 rfl rfl (le1 rfl) (fun w0 Zs Zb T0 ι0 => ?_)
  unfold m29 at h
  refine AWP.seq ?_
  refine AWP.region (.cons (.box (t := 1) (n := 2) (lt1 rfl) (nm rfl) (.tmp rfl) (by first | exact ⟨rfl,rfl⟩ | rfl) rfl)<| .cons (.assign (lt1 rfl) (.const _ _ _))<| .cons (.assign (lt1 rfl) (.const _ _ _))<| ARun.nil _ _ _) ?_
  refine AWP.vc (s' := ⟨[(1,.rd β3 a1.length (a1.flatMap (encI .i64))),(2,.ptr 1 0)],[(1,⟨32,false,[.rd β1 a0.Points.length (a0.Points.flatMap encR45),.rd β2 a0.Before.length (a0.Before.flatMap encR93)]⟩)]⟩) (VC.sub (.c rfl<| .c rfl<| .n _) (.c rfl<| .n _)) ?_
  refine AWP.seq ?_
  refine AWP.block ?_
  refine AWP.seq ?_
  obtain ⟨y_1,hy_1,h⟩ := bindS h
  refine AWP.region (.cons (.loadPA (lt1 rfl) (.tmp rfl) agg32 rfl rfl rfl rfl)<| .cons (.call0 (bw := false) (lt1 rfl) (c22 (β1 := β1) (β2 := β2) n (R24.mk a0.Points a0.Before) hy_1) (.cons (.tmp rfl) (.ren rfl) (.nil)) rfl)<| .cons (.not (lt1 rfl) (.tmp rfl))<| .cons (.assign (lt1 rfl) (.tmp rfl))<| ARun.nil _ _ _) ?_
  refine AWP.vc (s' := ⟨[(1,.rd β3 a1.length (a1.flatMap (encI .i64))),(2,.ptr 1 0),(6,.sc (.bool (!y_1)))],[(1,⟨32,false,[.rd β1 a0.Points.length (a0.Points.flatMap encR45),.rd β2 a0.Before.length (a0.Before.flatMap encR93)]⟩)]⟩) (VC.sub (.c rfl<| .c rfl<| .c rfl<| .n _) (.c rfl<| .n _)) ?_
  refine AWP.cond (.tmp rfl) (fun hc => ?_) (fun hc => ?_)
  · have h := iteT hc h
    refine AWP.seq ?_
    refine AWP.region (.cons (.assign (lt1 rfl) (.const _ _ _))<| .cons (.assign (lt1 rfl) (.const _ _ _))<| ARun.nil _ _ _) ?_
    refine AWP.ret ?_
    obtain rfl := Option.some.inj h
    refine retJ (Res.vc (s' := ⟨[(4,.sc (.int .i64 (0 : Int))),(5,.sc (.int .i64 (1 : Int)))],[]⟩) (VC.sub (.c rfl<| .c rfl<| .n _) (.n _)) ?_)
    refine Res.drop (H := []) rfl ?_
    exact Res.of rfl (.cons (.tmp rfl) (.cons (.tmp rfl) (.nil))) rfl rfl
  · have h := iteF hc h
    refine AWP.seq ?_
    obtain ⟨y_2,hy_2,h⟩ := bindS h
    refine AWP.region (.cons (.loadPA (lt1 rfl) (.tmp rfl) agg32 rfl rfl rfl rfl)<| .cons (.move (lt1 rfl) (.tmp rfl))<| .cons (.call0 (bw := false) (lt1 rfl) (c67 (β1 := β1) (β2 := β2) (β3 := β3) n (R24.mk a0.Points a0.Before) a1 hy_2) (.cons (.tmp rfl) (.ren rfl) (.cons (.tmp rfl) (.ren rfl) (.nil))) rfl)<| .cons (.not (lt1 rfl) (.tmp rfl))<| .cons (.assign (lt1 rfl) (.tmp rfl))<| ARun.nil _ _ _) ?_
    refine AWP.vc (s' := ⟨[(1,.rd β3 a1.length (a1.flatMap (encI .i64))),(2,.ptr 1 0),(10,.sc (.bool (!y_2)))],[(1,⟨32,false,[.rd β1 a0.Points.length (a0.Points.flatMap encR45),.rd β2 a0.Before.length (a0.Before.flatMap encR93)]⟩)]⟩) (VC.sub (.c rfl<| .c rfl<| .c rfl<| .n _) (.c rfl<| .n _)) ?_
    refine AWP.cond (.tmp rfl) (fun hc => ?_) (fun hc => ?_)
    · have h := iteT hc h
      refine AWP.seq ?_
      refine AWP.region (.cons (.assign (lt1 rfl) (.const _ _ _))<| .cons (.assign (lt1 rfl) (.const _ _ _))<| ARun.nil _ _ _) ?_
      refine AWP.ret ?_
      obtain rfl := Option.some.inj h
      refine retJ (Res.vc (s' := ⟨[(4,.sc (.int .i64 (0 : Int))),(5,.sc (.int .i64 (22 : Int)))],[]⟩) (VC.sub (.c rfl<| .c rfl<| .n _) (.n _)) ?_)
      refine Res.drop (H := []) rfl ?_
      exact Res.of rfl (.cons (.tmp rfl) (.cons (.tmp rfl) (.nil))) rfl rfl
    · have h := iteF hc h
      refine AWP.skip ?_
      refine AWP.seq ?_
      obtain ⟨y_3,hy_3,h⟩ := bindS h
      refine AWP.region (.cons (.loadPA (lt1 rfl) (.tmp rfl) agg32 rfl rfl rfl rfl)<| .cons (.move (lt1 rfl) (.tmp rfl))<| .cons (.call0 (bw := false) (lt1 rfl) (c68 (β1 := β1) (β2 := β2) (β3 := β3) n (R24.mk a0.Points a0.Before) a1 hy_3) (.cons (.tmp rfl) (.ren rfl) (.cons (.tmp rfl) (.ren rfl) (.nil))) rfl)<| .cons (.assign (lt1 rfl) (.tmp rfl))<| .cons (.assign (lt1 rfl) (.const _ _ _))<| ARun.nil _ _ _) ?_
      refine AWP.ret ?_
      obtain rfl := Option.some.inj h
      refine retJ (Res.vc (s' := ⟨[(4,.sc (.int .i64 y_3)),(5,.sc (.int .i64 (0 : Int)))],[]⟩) (VC.sub (.c rfl<| .c rfl<| .n _) (.n _)) ?_)
      refine Res.drop (H := []) rfl ?_
      exact Res.of rfl (.cons (.tmp rfl) (.cons (.tmp rfl) (.nil))) rfl rfl
theorem c37 {β1 : Bool} {β2 : Bool} {β3 : Bool} (n : Nat) (a0 : R24) (a1 : (List Int)) {r : Bool} (h : m37 n a0 a1 = some r) : Spec Try.prog 37 [] [.agg [.rd β1 a0.Points.length (a0.Points.flatMap encR45),.rd β2 a0.Before.length (a0.Before.flatMap encR93)],.rd β3 a1.length (a1.flatMap (encI .i64))] [] (.sc (.bool r)) [] := by
  refine Spec.of (fn := Try.f37) Try.func37 Try.ntmps37 rfl rfl (le1 rfl) (fun w0 Zs Zb T0 ι0 => ?_)
  unfold m37 at h
  refine AWP.seq ?_
  refine AWP.region (.cons (.box (t := 1) (n := 2) (lt1 rfl) (nm rfl) (.tmp rfl) (by first | exact ⟨rfl,rfl⟩ | rfl) rfl)<| .cons (.assign (lt1 rfl) (.const _ _ _))<| ARun.nil _ _ _) ?_
  refine AWP.vc (s' := ⟨[(1,.rd β3 a1.length (a1.flatMap (encI .i64))),(2,.ptr 1 0)],[(1,⟨25,false,[.rd β1 a0.Points.length (a0.Points.flatMap encR45),.rd β2 a0.Before.length (a0.Before.flatMap encR93)]⟩)]⟩) (VC.sub (.c rfl<| .c rfl<| .n _) (.c rfl<| .n _)) ?_
  refine AWP.seq ?_
  refine AWP.seq ?_
  obtain ⟨y_1,hy_1,h⟩ := bindS h
  refine AWP.region (.cons (.move (lt1 rfl) (.tmp rfl))<| .cons (.lenRd (lt1 rfl) (.tmp rfl) Try.underlying28)<| .cons (.fieldP (lt1 rfl) (.tmp rfl) fld25_0)<| .cons (.loadP (lt1 rfl) (.tmp rfl) one22 rfl rfl rfl)<| .cons (.lenRd (lt1 rfl) (.tmp rfl) Try.underlying22)<| .cons (.neq (lt1 rfl) (.tmp rfl) (.tmp rfl))<| .cons (.move (lt1 rfl) (.tmp rfl))<| .guard (j := 6) (dj := 12) rfl (lt1 rfl) rfl (lt1 rfl) (fun hg => .move (lt1 rfl) (.tmp rfl))<| .guard (j := 6) (dj := 12) rfl (lt1 rfl) rfl (lt1 rfl) (fun hg => .indexRd (enc := (encI .i64)) (lt1 rfl) (.gd hg (.tmp rfl)) (.const _ _ _) Try.underlying28 sz3 (encI_len .i64) rfl (gdB hy_1 hg))<| .guard (j := 6) (dj := 12) rfl (lt1 rfl) rfl (lt1 rfl) (fun hg => .loadR (v := .sc (.int .i64 y_1)) (lt1 rfl) (.gd hg (.tmp rfl)) one3 rfl)<| .guard (j := 6) (dj := 12) rfl (lt1 rfl) rfl (lt1 rfl) (fun hg => .neq (lt1 rfl) (.gd hg (.tmp rfl)) (.const _ _ _))<| .cons (.pickOr (lt1 rfl) (.tmp rfl) (.const _ _ _) (.tmp rfl))<| ARun.nil _ _ _) ?_
  refine AWP.vc (s' := ⟨[(1,.rd β3 a1.length (a1.flatMap (encI .i64))),(2,.ptr 1 0),(17,.sc (.bool ((!decide ((a1.length : Int) = (a0.Points.length : Int))) || (!decide (y_1 = (0 : Int))))))],[(1,⟨25,false,[.rd β1 a0.Points.length (a0.Points.flatMap encR45),.rd β2 a0.Before.length (a0.Before.flatMap encR93)]⟩)]⟩) (VC.sub (.c rfl<| .c rfl<| .c rfl<| .n _) (.c rfl<| .n _)) ?_
  refine AWP.cond (.tmp rfl) (fun hc => ?_) (fun hc => ?_)
  · have h := iteT hc h
    refine AWP.seq ?_
    refine AWP.region (.cons (.assign (lt1 rfl) (.const _ _ _))<| ARun.nil _ _ _) ?_
    refine AWP.ret ?_
    obtain rfl := Option.some.inj h
    refine retJ (Res.vc (s' := ⟨[(4,.sc (.bool false))],[]⟩) (VC.sub (.c rfl<| .n _) (.n _)) ?_)
    refine Res.drop (H := []) rfl ?_
    exact Res.of rfl (.cons (.tmp rfl) (.nil)) rfl rfl
  · have h := iteF hc h
    refine AWP.skip ?_
    refine AWP.seq ?_
    refine AWP.seq ?_
    refine AWP.region (.cons (.assign (lt1 rfl) (.const _ _ _))<| ARun.nil _ _ _) ?_
    refine AWP.vc (s' := ⟨[(1,.rd β3 a1.length (a1.flatMap (encI .i64))),(2,.ptr 1 0),(5,.sc (.int .i64 (1 : Int)))],[(1,⟨25,false,[.rd β1 a0.Points.length (a0.Points.flatMap encR45),.rd β2 a0.Before.length (a0.Before.flatMap encR93)]⟩)]⟩) (VC.sub (.c rfl<| .c rfl<| .c rfl<| .n _) (.c rfl<| .n _)) ?_
    refine AWP.joinB' (S := fun p_15 : Unit => ⟨[],[]⟩) h (fun p_15 h => ?_) (fun k_16 h => ?_)
    · refine AWP.seq ?_
      refine AWP.region (.cons (.assign (lt1 rfl) (.const _ _ _))<| ARun.nil _ _ _) ?_
      refine AWP.ret ?_
      obtain rfl := Option.some.inj h
      refine retJ (Res.vc (s' := ⟨[(4,.sc (.bool true))],[]⟩) (VC.sub (.c rfl<| .n _) (.n _)) ?_)
      refine Res.drop (H := []) rfl ?_
      exact Res.of rfl (.cons (.tmp rfl) (.nil)) rfl rfl
    · refine AWP.vc (s' := ⟨[(1,.rd β3 a1.length (a1.flatMap (encI .i64))),(2,.ptr 1 0),(5,.sc (.int .i64 (1 : Int)))],[(1,⟨25,false,[.rd β1 a0.Points.length (a0.Points.flatMap encR45),.rd β2 a0.Before.length (a0.Before.flatMap encR93)]⟩)]⟩) (VC.sub (.c rfl<| .c rfl<| .c rfl<| .n _) (.c rfl<| .n _)) ?_
      refine AWP.loopM (S := fun x_8 : Int => ⟨[(1,.rd β3 a1.length (a1.flatMap (encI .i64))),(2,.ptr 1 0),(5,.sc (.int .i64 x_8))],[(1,⟨25,false,[.rd β1 a0.Points.length (a0.Points.flatMap encR45),.rd β2 a0.Before.length (a0.Before.flatMap encR93)]⟩)]⟩) (x := (1 : Int)) (fun nx_9 x_8 h => ?_) h
      unfold m37_L1 at h
      refine AWP.seq ?_
      refine AWP.seq ?_
      refine AWP.region (.cons (.move (lt1 rfl) (.tmp rfl))<| .cons (.move (lt1 rfl) (.tmp rfl))<| .cons (.lenRd (lt1 rfl) (.tmp rfl) Try.underlying28)<| .cons (.lss (lt1 rfl) (.tmp rfl) (.tmp rfl))<| ARun.nil _ _ _) ?_
      refine AWP.vc (s' := ⟨[(1,.rd β3 a1.length (a1.flatMap (encI .i64))),(2,.ptr 1 0),(5,.sc (.int .i64 x_8)),(21,.sc (.bool (decide (x_8 < (a1.length : Int)))))],[(1,⟨25,false,[.rd β1 a0.Points.length (a0.Points.flatMap encR45),.rd β2 a0.Before.length (a0.Before.flatMap encR93)]⟩)]⟩) (VC.sub (.c rfl<| .c rfl<| .c rfl<| .c rfl<| .n _) (.c rfl<| .n _)) ?_
      refine AWP.cond (.tmp rfl) (fun hc => ?_) (fun hc => ?_)
      · have h := iteT hc h
        refine AWP.skip ?_
        refine AWP.seq ?_
        refine AWP.block ?_
        refine AWP.seq ?_
        obtain ⟨s_10,hs_10,h⟩ := bindS h
        obtain ⟨y_11,hy_11,h⟩ := bindS h
        obtain ⟨y_12,hy_12,h⟩ := bindS h
        obtain ⟨y_13,hy_13,h⟩ := bindS h
        refine AWP.draw (s' := ⟨[(1,.rd β3 a1.length (a1.flatMap (encI .i64))),(2,.ptr 1 0),(5,.sc (.int .i64 x_8)),(34,.sc (.bool (!y_13)))],[(1,⟨25,false,[.rd β1 a0.Points.length (a0.Points.flatMap encR45),.rd β2 a0.Before.length (a0.Before.flatMap encR93)]⟩)]⟩) mixed [⟨1,.rd β3 a1.length (a1.flatMap (encI .i64)),none,[]⟩,⟨2,.ptr 1 0,none,[]⟩,⟨5,.sc (.int .i64 x_8),none,[]⟩,⟨21,.sc (.bool (decide (x_8 < (a1.length : Int)))),none,[]⟩,⟨24,.agg [.rd β1 a0.Points.length (a0.Points.flatMap encR45),.rd β2 a0.Before.length (a0.Before.flatMap encR93)],some 0,[]⟩,⟨25,.rd β3 a1.length (a1.flatMap (encI .i64)),some 1,[]⟩,⟨26,.sc (.int .i64 x_8),some 2,[]⟩,⟨27,.rd β3 s_10.length (s_10.flatMap (encI .i64)),some 3,[]⟩,⟨28,.rd false y_11.length (y_11.flatMap (encI .i64)),some 4,[]⟩,⟨29,.rd β3 a1.length (a1.flatMap (encI .i64)),some 5,[]⟩,⟨30,.sc (.int .i64 x_8),some 6,[]⟩,⟨31,.rptr β3 [.sc (.int .i64 y_12)],some 7,[]⟩,⟨32,.sc (.int .i64 y_12),some 8,[]⟩,⟨33,.sc (.bool y_13),some 9,[]⟩,⟨34,.sc (.bool (!y_13)),some 10,[]⟩] [⟨[1],0,0,some (24,.agg [.rd β1 a0.Points.length (a0.Points.flatMap encR45),.rd β2 a0.Before.length (a0.Before.flatMap encR93)]),[]⟩,⟨[0],0,0,some (25,.rd β3 a1.length (a1.flatMap (encI .i64))),[]⟩,⟨[2],0,0,some (26,.sc (.int .i64 x_8)),[]⟩,⟨[5,6],0,0,some (27,.rd β3 s_10.length (s_10.flatMap (encI .i64))),[]⟩,⟨[4,7],0,0,some (28,.rd false y_11.length (y_11.flatMap (encI .i64))),[]⟩,⟨[0],0,0,some (29,.rd β3 a1.length (a1.flatMap (encI .i64))),[]⟩,⟨[2],0,0,some (30,.sc (.int .i64 x_8)),[]⟩,⟨[9,10],0,0,some (31,.rptr β3 [.sc (.int .i64 y_12)]),[]⟩,⟨[11],0,0,some (32,.sc (.int .i64 y_12)),[]⟩,⟨[8,12],0,0,some (33,.sc (.bool y_13)),[]⟩,⟨[13],0,0,some (34,.sc (.bool (!y_13))),[]⟩] [] [[(1,⟨25,false,[.rd β1 a0.Points.length (a0.Points.flatMap encR45),.rd β2 a0.Before.length (a0.Before.flatMap encR93)]⟩)]] [[],[],[],[1,2],[0,1,2,3],[],[],[5,6],[5,6,7],[0,1,2,3,4,5,6,7,8],[0,1,2,3,4,5,6,7,8,9]] (by kernel_rfl) (by kernel_rfl) (BornL.ok (.o<| .o<| .o<| .o<| .b rfl rfl<| .b rfl rfl<| .b rfl rfl<| .b rfl rfl<| .b rfl rfl<| .b rfl rfl<| .b rfl rfl<| .b rfl rfl<| .b rfl rfl<| .b rfl rfl<| .b rfl rfl<| .n)) (BaseL.ok (.o rfl<| .o rfl<| .o rfl<| .o rfl<| .b<| .b<| .b<| .b<| .b<| .b<| .b<| .b<| .b<| .b<| .b<| .n)) rfl (by decide) (allLt rfl) (.read rfl (.c (.put (fun E hE => .loadPA (lt1 rfl) (.tmp (hE.at (k := 0) rfl)) agg25 rfl rfl rfl rfl)) .n)<| .pure rfl (fun H => .put (fun E hE => .move (lt1 rfl) (.tmp (hE.at (k := 0) rfl))))<| .pure rfl (fun H => .put (fun E hE => .move (lt1 rfl) (.tmp (hE.at (k := 0) rfl))))<| .pure rfl (fun H => .put (fun E hE => .slRd (enc := (encI .i64)) (lt1 rfl) (.tmp (hE.at (k := 0) rfl)) Try.underlying28 sz3 (encI_len .i64) rfl (.none _ _ _) (.some (.tmp (hE.at (k := 1) rfl))) hs_10))<| .pure rfl (fun H => .put (fun E hE => .call0 (bw := false) (lt1 rfl) (c45 (β1 := β1) (β2 := β2) (β3 := β3) n (R24.mk a0.Points a0.Before) s_10 hy_11) (.cons (.tmp (hE.at (k := 0) rfl)) (.ren rfl) (.cons (.tmp (hE.at (k := 1) rfl)) (.ren rfl) (.nil))) rfl))<| .pure rfl (fun H => .put (fun E hE => .move (lt1 rfl) (.tmp (hE.at (k := 0) rfl))))<| .pure rfl (fun H => .put (fun E hE => .move (lt1 rfl) (.tmp (hE.at (k := 0) rfl))))<| .pure rfl (fun H => .put (fun E hE => .indexRd (enc := (encI .i64)) (lt1 rfl) (.tmp (hE.at (k := 0) rfl)) (.tmp (hE.at (k := 1) rfl)) Try.underlying28 sz3 (encI_len .i64) rfl hy_12))<| .pure rfl (fun H => .put (fun E hE => .loadR (v := .sc (.int .i64 y_12)) (lt1 rfl) (.tmp (hE.at (k := 0) rfl)) one3 rfl))<| .pure rfl (fun H => .put (fun E hE => .call0 (bw := false) (lt1 rfl) (c73 (β1 := false) n y_11 y_12 hy_13) (.cons (.tmp (hE.at (k := 0) rfl)) (.ren rfl) (.cons (.tmp (hE.at (k := 1) rfl)) (.ren rfl) (.nil))) rfl))<| .pure rfl (fun H => .put (fun E hE => .not (lt1 rfl) (.tmp (hE.at (k := 0) rfl))))<| .nil _) (fun E hE => .c (DInv.at hE (k := 0) rfl rfl rfl)<| .c (DInv.at hE (k := 1) rfl rfl rfl)<| .c (DInv.at hE (k := 2) rfl rfl rfl)<| .c (DInv.at hE (k := 14) rfl rfl rfl)<| .n _) rfl ?_
        refine AWP.vc (s' := ⟨[(1,.rd β3 a1.length (a1.flatMap (encI .i64))),(2,.ptr 1 0),(5,.sc (.int .i64 x_8)),(34,.sc (.bool (!y_13)))],[(1,⟨25,false,[.rd β1 a0.Points.length (a0.Points.flatMap encR45),.rd β2 a0.Before.length (a0.Before.flatMap encR93)]⟩)]⟩) (VC.sub (.c rfl<| .c rfl<| .c rfl<| .c rfl<| .n _) (.c rfl<| .n _)) ?_
        refine AWP.cond (.tmp rfl) (fun hc => ?_) (fun hc => ?_)
        · have h := iteT hc h
          refine AWP.seq ?_
          refine AWP.region (.cons (.assign (lt1 rfl) (.const _ _ _))<| ARun.nil _ _ _) ?_
          refine AWP.ret ?_
          obtain rfl := Option.some.inj h
          refine retJ (Res.vc (s' := ⟨[(4,.sc (.bool false))],[]⟩) (VC.sub (.c rfl<| .n _) (.n _)) ?_)
          refine Res.drop (H := []) rfl ?_
          exact Res.of rfl (.cons (.tmp rfl) (.nil)) rfl rfl
        · have h := iteF hc h
          refine AWP.skip ?_
          obtain ⟨t5_14,ht5_14,h⟩ := letS h
          refine AWP.region (.cons (.move (lt1 rfl) (.tmp rfl))<| .cons (.add (lt1 rfl) (.tmp rfl) (.const _ _ _))<| .cons (.assign (lt1 rfl) (.tmp rfl))<| ARun.nil _ _ _) ?_
          exact endJ t5_14 h (by subst ht5_14; exact VC.sub (.c rfl<| .c rfl<| .c rfl<| .n _) (.c rfl<| .n _))
      · have h := iteF hc h
        refine AWP.exit ?_
        exact endJ () h (VC.sub (.n _) (.n _))
theorem c94 {β1 : Bool} {β2 : Bool} (n : Nat) (a0 : Int) (a1 : Int) (a2_b0 : (List R45)) (a2_b1 : (List R93)) (a3_b0 : Int) {r : Int} (h : m94 n a0 a1 a2_b0 a2_b1 a3_b0 = some r) : Spec Try.prog 94 [1,2] [.sc (.int .i64 a0),.sc (.int .i64 a1),.ptr 1 0,.ptr 2 0] [(1,⟨32,false,[.rd β1 a2_b0.length (a2_b0.flatMap encR45),.rd β2 a2_b1.length (a2_b1.flatMap encR93)]⟩),(2,⟨3,false,[.sc (.int .i64 a3_b0)]⟩)] (.sc (.int .i64 r)) [(1,⟨32,false,[.rd β1 a2_b0.length (a2_b0.flatMap encR45),.rd β2 a2_b1.length (a2_b1.flatMap encR93)]⟩),(2,⟨3,false,[.sc (.int .i64 a3_b0)]⟩)] := by
  refine Spec.of (fn := Try.f94) Try.func94 Try.ntmps94 rfl rfl (le1 rfl) (fun w0 Zs Zb T0 ι0 => ?_)
  unfold m94 at h
  refine AWP.seq ?_
  refine AWP.region (.cons (.assign (lt1 rfl) (.const _ _ _))<| ARun.nil _ _ _) ?_
  refine AWP.vc (s' := ⟨[(0,.sc (.int .i64 a0)),(1,.sc (.int .i64 a1)),(2,.ptr 1 0),(3,.ptr 2 0)],[(1,⟨32,false,[.rd β1 a2_b0.length (a2_b0.flatMap encR45),.rd β2 a2_b1.length (a2_b1.flatMap encR93)]⟩),(2,⟨3,false,[.sc (.int .i64 a3_b0)]⟩)]⟩) (VC.sub (.c rfl<| .c rfl<| .c rfl<| .c rfl<| .n _) (.c rfl<| .c rfl<| .n _)) ?_
  refine AWP.seq ?_
  obtain ⟨y_1,hy_1,h⟩ := bindS h
  obtain ⟨y_2,hy_2,h⟩ := bindS h
  obtain ⟨t6_3,ht6_3,h⟩ := letS h
  refine AWP.draw (s' := ⟨[(6,.sc (.int .i64 (IntKind.wrap .i64 (y_1 - y_2))))],[(1,⟨32,false,[.rd β1 a2_b0.length (a2_b0.flatMap encR45),.rd β2 a2_b1.length (a2_b1.flatMap encR93)]⟩),(2,⟨3,false,[.sc (.int .i64 a3_b0)]⟩)]⟩) mixed [⟨0,.sc (.int .i64 a0),none,[]⟩,⟨1,.sc (.int .i64 a1),none,[]⟩,⟨2,.ptr 1 0,none,[]⟩,⟨3,.ptr 2 0,none,[]⟩,⟨7,.agg [.rd β1 a2_b0.length (a2_b0.flatMap encR45),.rd β2 a2_b1.length (a2_b1.flatMap encR93)],some 0,[]⟩,⟨8,.sc (.int .i64 a3_b0),some 1,[]⟩,⟨9,.sc (.int .i64 a0),some 2,[]⟩,⟨10,.sc (.int .i64 y_1),some 3,[]⟩,⟨11,.agg [.rd β1 a2_b0.length (a2_b0.flatMap encR45),.rd β2 a2_b1.length (a2_b1.flatMap encR93)],some 4,[]⟩,⟨12,.sc (.int .i64 a3_b0),some 5,[]⟩,⟨13,.sc (.int .i64 a1),some 6,[]⟩,⟨14,.sc (.int .i64 y_2),some 7,[]⟩,⟨15,.sc (.int .i64 (IntKind.wrap .i64 (y_1 - y_2))),some 8,[]⟩,⟨6,.sc (.int .i64 (IntKind.wrap .i64 (y_1 - y_2))),some 9,[]⟩] [⟨[2],0,0,some (7,.agg [.rd β1 a2_b0.length (a2_b0.flatMap encR45),.rd β2 a2_b1.length (a2_b1.flatMap encR93)]),[]⟩,⟨[3],0,0,some (8,.sc (.int .i64 a3_b0)),[]⟩,⟨[0],0,0,some (9,.sc (.int .i64 a0)),[]⟩,⟨[4,5,6],0,0,some (10,.sc (.int .i64 y_1)),[]⟩,⟨[2],0,0,some (11,.agg [.rd β1 a2_b0.length (a2_b0.flatMap encR45),.rd β2 a2_b1.length (a2_b1.flatMap encR93)]),[]⟩,⟨[3],0,0,some (12,.sc (.int .i64 a3_b0)),[]⟩,⟨[1],0,0,some (13,.sc (.int .i64 a1)),[]⟩,⟨[8,9,10],0,0,some (14,.sc (.int .i64 y_2)),[]⟩,⟨[7,11],0,0,some (15,.sc (.int .i64 (IntKind.wrap .i64 (y_1 - y_2)))),[]⟩,⟨[12],0,0,some (6,.sc (.int .i64 (IntKind.wrap .i64 (y_1 - y_2)))),[]⟩] [] [[(1,⟨32,false,[.rd β1 a2_b0.length (a2_b0.flatMap encR45),.rd β2 a2_b1.length (a2_b1.flatMap encR93)]⟩),(2,⟨3,false,[.sc (.int .i64 a3_b0)]⟩)]] [[],[],[],[0,1,2],[],[],[],[0,1,2,3,4,5,6],[0,1,2,3,4,5,6,7],[0,1,2,3,4,5,6,7,8]] (by kernel_rfl) (by kernel_rfl) (BornL.ok (.o<| .o<| .o<| .o<| .b rfl rfl<| .b rfl rfl<| .b rfl rfl<| .b rfl rfl<| .b rfl rfl<| .b rfl rfl<| .b rfl rfl<| .b rfl rfl<| .b rfl rfl<| .b rfl rfl<| .n)) (BaseL.ok (.o rfl<| .o rfl<| .o rfl<| .o rfl<| .b<| .b<| .b<| .b<| .b<| .b<| .b<| .b<| .b<| .b<| .n)) rfl (by decide) (allLt rfl) (.read rfl (.c (.put (fun E hE => .loadPA (lt1 rfl) (.tmp (hE.at (k := 0) rfl)) agg32 rfl rfl rfl rfl)) .n)<| .read rfl (.c (.put (fun E hE => .loadP (lt1 rfl) (.tmp (hE.at (k := 0) rfl)) one3 rfl rfl rfl)) .n)<| .pure rfl (fun H => .put (fun E hE => .move (lt1 rfl) (.tmp (hE.at (k := 0) rfl))))<| .pure rfl (fun H => .put (fun E hE => .call0 (bw := false) (lt1 rfl) (c79 (β1 := β1) (β2 := β2) n (R24.mk a2_b0 a2_b1) a3_b0 a0 hy_1) (.cons (.tmp (hE.at (k := 0) rfl)) (.ren rfl) (.cons (.tmp (hE.at (k := 1) rfl)) (.ren rfl) (.cons (.tmp (hE.at (k := 2) rfl)) (.ren rfl) (.nil)))) rfl))<| .read rfl (.c (.put (fun E hE => .loadPA (lt1 rfl) (.tmp (hE.at (k := 0) rfl)) agg32 rfl rfl rfl rfl)) .n)<| .read rfl (.c (.put (fun E hE => .loadP (lt1 rfl) (.tmp (hE.at (k := 0) rfl)) one3 rfl rfl rfl)) .n)<| .pure rfl (fun H => .put (fun E hE => .move (lt1 rfl) (.tmp (hE.at (k := 0) rfl))))<| .pure rfl (fun H => .put (fun E hE => .call0 (bw := false) (lt1 rfl) (c79 (β1 := β1) (β2 := β2) n (R24.mk a2_b0 a2_b1) a3_b0 a1 hy_2) (.cons (.tmp (hE.at (k := 0) rfl)) (.ren rfl) (.cons (.tmp (hE.at (k := 1) rfl)) (.ren rfl) (.cons (.tmp (hE.at (k := 2) rfl)) (.ren rfl) (.nil)))) rfl))<| .pure rfl (fun H => .put (fun E hE => .sub (lt1 rfl) (.tmp (hE.at (k := 0) rfl)) (.tmp (hE.at (k := 1) rfl))))<| .pure rfl (fun H => .put (fun E hE => .assign (lt1 rfl) (.tmp (hE.at (k := 0) rfl))))<| .nil _) (fun E hE => .c (DInv.at hE (k := 13) rfl rfl rfl)<| .n _) rfl ?_
  refine AWP.ret ?_
  obtain rfl := Option.some.inj h
  refine retJ (Res.vc (s' := ⟨[(6,.sc (.int .i64 t6_3))],[(1,⟨32,false,[.rd β1 a2_b0.length (a2_b0.flatMap encR45),.rd β2 a2_b1.length (a2_b1.flatMap encR93)]⟩),(2,⟨3,false,[.sc (.int .i64 a3_b0)]⟩)]⟩) (by subst ht6_3; exact VC.sub (.c rfl<| .n _) (.c rfl<| .c rfl<| .n _)) ?_)
  refine Res.sub (H := [(1,⟨32,false,[.rd β1 a2_b0.length (a2_b0.flatMap encR45),.rd β2 a2_b1.length (a2_b1.flatMap encR93)]⟩),(2,⟨3,false,[.sc (.int .i64 a3_b0)]⟩)]) (.c rfl<| .c rfl<| .n _) ?_
  exact Res.of rfl (.cons (.tmp rfl) (.nil)) rfl rfl
theorem c93 {β1 : Bool} {β2 : Bool} {β3 : Bool} (n : Nat) (a0 : (List Int)) (a1_0_b0 : (List R45)) (a1_0_b1 : (List R93)) (a1_1_b0 : Int) {r : Int} (h : m93 n a0 a1_0_b0 a1_0_b1 a1_1_b0 = some r) : Spec Try.prog 93 [1,2] [.rd β1 a0.length (a0.flatMap (encI .i64)),.clo (.func 94) [] [.ptr 1 0,.ptr 2 0]] [(1,⟨32,false,[.rd β2 a1_0_b0.length (a1_0_b0.flatMap encR45),.rd β3 a1_0_b1.length (a1_0_b1.flatMap encR93)]⟩),(2,⟨3,false,[.sc (.int .i64 a1_1_b0)]⟩)] (.sc (.int .i64 r)) [(1,⟨32,false,[.rd β2 a1_0_b0.length (a1_0_b0.flatMap encR45),.rd β3 a1_0_b1.length (a1_0_b1.flatMap encR93)]⟩),(2,⟨3,false,[.sc (.int .i64 a1_1_b0)]⟩)] := by
  refine Spec.of (fn := Try.f93) Try.func93 Try.ntmps93 rfl rfl (le1 rfl) (fun w0 Zs Zb T0 ι0 => ?_)
  unfold m93 at h
  refine AWP.seq ?_
  refine AWP.region (.cons (.assign (lt1 rfl) (.const _ _ _))<| ARun.nil _ _ _) ?_
  refine AWP.vc (s' := ⟨[(0,.rd β1 a0.length (a0.flatMap (encI .i64))),(1,.clo (.func 94) [] [.ptr 1 0,.ptr 2 0])],[(1,⟨32,false,[.rd β2 a1_0_b0.length (a1_0_b0.flatMap encR45),.rd β3 a1_0_b1.length (a1_0_b1.flatMap encR93)]⟩),(2,⟨3,false,[.sc (.int .i64 a1_1_b0)]⟩)]⟩) (VC.sub (.c rfl<| .c rfl<| .n _) (.c rfl<| .c rfl<| .n _)) ?_
  refine AWP.seq ?_
  refine AWP.seq ?_
  refine AWP.region (.cons (.move (lt1 rfl) (.tmp rfl))<| .cons (.lenRd (lt1 rfl) (.tmp rfl) Try.underlying28)<| .cons (.lss (lt1 rfl) (.tmp rfl) (.const _ _ _))<| ARun.nil _ _ _) ?_
  refine AWP.vc (s' := ⟨[(0,.rd β1 a0.length (a0.flatMap (encI .i64))),(1,.clo (.func 94) [] [.ptr 1 0,.ptr 2 0]),(9,.sc (.bool (decide ((a0.length : Int) < (1 : Int)))))],[(1,⟨32,false,[.rd β2 a1_0_b0.length (a1_0_b0.flatMap encR45),.rd β3 a1_0_b1.length (a1_0_b1.flatMap encR93)]⟩),(2,⟨3,false,[.sc (.int .i64 a1_1_b0)]⟩)]⟩) (VC.sub (.c rfl<| .c rfl<| .c rfl<| .n _) (.c rfl<| .c rfl<| .n _)) ?_
  refine AWP.cond (.tmp rfl) (fun hc => ?_) (fun hc => ?_)
  · have h := iteT hc h
    cases h
  · have h := iteF hc h
    refine AWP.skip ?_
    refine AWP.seq ?_
    obtain ⟨y_1,hy_1,h⟩ := bindS h
    refine AWP.region (.cons (.move (lt1 rfl) (.tmp rfl))<| .cons (.indexRd (enc := (encI .i64)) (lt1 rfl) (.tmp rfl) (.const _ _ _) Try.underlying28 sz3 (encI_len .i64) rfl hy_1)<| .cons (.loadR (v := .sc (.int .i64 y_1)) (lt1 rfl) (.tmp rfl) one3 rfl)<| .cons (.assign (lt1 rfl) (.tmp rfl))<| ARun.nil _ _ _) ?_
    refine AWP.vc (s' := ⟨[(0,.rd β1 a0.length (a0.flatMap (encI .i64))),(1,.clo (.func 94) [] [.ptr 1 0,.ptr 2 0]),(5,.sc (.int .i64 y_1))],[(1,⟨32,false,[.rd β2 a1_0_b0.length (a1_0_b0.flatMap encR45),.rd β3 a1_0_b1.length (a1_0_b1.flatMap encR93)]⟩),(2,⟨3,false,[.sc (.int .i64 a1_1_b0)]⟩)]⟩) (VC.sub (.c rfl<| .c rfl<| .c rfl<| .n _) (.c rfl<| .c rfl<| .n _)) ?_
    refine AWP.seq ?_
    refine AWP.seq ?_
    refine AWP.region (.cons (.assign (lt1 rfl) (.const _ _ _))<| ARun.nil _ _ _) ?_
    refine AWP.vc (s' := ⟨[(0,.rd β1 a0.length (a0.flatMap (encI .i64))),(1,.clo (.func 94) [] [.ptr 1 0,.ptr 2 0]),(5,.sc (.int .i64 y_1)),(6,.sc (.int .i64 (1 : Int)))],[(1,⟨32,false,[.rd β2 a1_0_b0.length (a1_0_b0.flatMap encR45),.rd β3 a1_0_b1.length (a1_0_b1.flatMap encR93)]⟩),(2,⟨3,false,[.sc (.int .i64 a1_1_b0)]⟩)]⟩) (VC.sub (.c rfl<| .c rfl<| .c rfl<| .c rfl<| .n _) (.c rfl<| .c rfl<| .n _)) ?_
    refine AWP.joinB' (S := fun p_24 : Int => ⟨[(5,.sc (.int .i64 p_24))],[(1,⟨32,false,[.rd β2 a1_0_b0.length (a1_0_b0.flatMap encR45),.rd β3 a1_0_b1.length (a1_0_b1.flatMap encR93)]⟩),(2,⟨3,false,[.sc (.int .i64 a1_1_b0)]⟩)]⟩) h (fun p_24 h => ?_) (fun k_25 h => ?_)
    · refine AWP.seq ?_
      refine AWP.region (.cons (.move (lt1 rfl) (.tmp rfl))<| .cons (.assign (lt1 rfl) (.tmp rfl))<| ARun.nil _ _ _) ?_
      refine AWP.ret ?_
      obtain rfl := Option.some.inj h
      refine retJ (Res.vc (s' := ⟨[(4,.sc (.int .i64 p_24))],[(1,⟨32,false,[.rd β2 a1_0_b0.length (a1_0_b0.flatMap encR45),.rd β3 a1_0_b1.length (a1_0_b1.flatMap encR93)]⟩),(2,⟨3,false,[.sc (.int .i64 a1_1_b0)]⟩)]⟩) (VC.sub (.c rfl<| .n _) (.c rfl<| .c rfl<| .n _)) ?_)
      refine Res.sub (H := [(1,⟨32,false,[.rd β2 a1_0_b0.length (a1_0_b0.flatMap encR45),.rd β3 a1_0_b1.length (a1_0_b1.flatMap encR93)]⟩),(2,⟨3,false,[.sc (.int .i64 a1_1_b0)]⟩)]) (.c rfl<| .c rfl<| .n _) ?_
      exact Res.of rfl (.cons (.tmp rfl) (.nil)) rfl rfl
    · refine AWP.vc (s' := ⟨[(0,.rd β1 a0.length (a0.flatMap (encI .i64))),(1,.clo (.func 94) [] [.ptr 1 0,.ptr 2 0]),(5,.sc (.int .i64 y_1)),(6,.sc (.int .i64 (1 : Int)))],[(1,⟨32,false,[.rd β2 a1_0_b0.length (a1_0_b0.flatMap encR45),.rd β3 a1_0_b1.length (a1_0_b1.flatMap encR93)]⟩),(2,⟨3,false,[.sc (.int .i64 a1_1_b0)]⟩)]⟩) (VC.sub (.c rfl<| .c rfl<| .c rfl<| .c rfl<| .n _) (.c rfl<| .c rfl<| .n _)) ?_
      refine AWP.loopM (S := fun x_16 : Int × Int => ⟨[(0,.rd β1 a0.length (a0.flatMap (encI .i64))),(1,.clo (.func 94) [] [.ptr 1 0,.ptr 2 0]),(5,.sc (.int .i64 x_16.1)),(6,.sc (.int .i64 x_16.2))],[(1,⟨32,false,[.rd β2 a1_0_b0.length (a1_0_b0.flatMap encR45),.rd β3 a1_0_b1.length (a1_0_b1.flatMap encR93)]⟩),(2,⟨3,false,[.sc (.int .i64 a1_1_b0)]⟩)]⟩) (x := (y_1,(1 : Int))) (fun nx_17 x_16 h => ?_) h
      unfold m93_L1 at h
      refine AWP.seq ?_
      refine AWP.seq ?_
      refine AWP.region (.cons (.move (lt1 rfl) (.tmp rfl))<| .cons (.move (lt1 rfl) (.tmp rfl))<| .cons (.lenRd (lt1 rfl) (.tmp rfl) Try.underlying28)<| .cons (.lss (lt1 rfl) (.tmp rfl) (.tmp rfl))<| ARun.nil _ _ _) ?_
      refine AWP.vc (s' := ⟨[(0,.rd β1 a0.length (a0.flatMap (encI .i64))),(1,.clo (.func 94) [] [.ptr 1 0,.ptr 2 0]),(5,.sc (.int .i64 x_16.1)),(6,.sc (.int .i64 x_16.2)),(17,.sc (.bool (decide (x_16.2 < (a0.length : Int)))))],[(1,⟨32,false,[.rd β2 a1_0_b0.length (a1_0_b0.flatMap encR45),.rd β3 a1_0_b1.length (a1_0_b1.flatMap encR93)]⟩),(2,⟨3,false,[.sc (.int .i64 a1_1_b0)]⟩)]⟩) (VC.sub (.c rfl<| .c rfl<| .c rfl<| .c rfl<| .c rfl<| .n _) (.c rfl<| .c rfl<| .n _)) ?_
      refine AWP.cond (.tmp rfl) (fun hc => ?_) (fun hc => ?_)
      · have h := iteT hc h
        refine AWP.skip ?_
        refine AWP.seq ?_
        refine AWP.block ?_
        refine AWP.seq ?_
        obtain ⟨y_18,hy_18,h⟩ := bindS h
        obtain ⟨y_19,hy_19,h⟩ := bindS h
        refine AWP.region (.cons (.move (lt1 rfl) (.tmp rfl))<| .cons (.move (lt1 rfl) (.tmp rfl))<| .cons (.move (lt1 rfl) (.tmp rfl))<| .cons (.indexRd (enc := (encI .i64)) (lt1 rfl) (.tmp rfl) (.tmp rfl) Try.underlying28 sz3 (encI_len .i64) rfl hy_18)<| .cons (.loadR (v := .sc (.int .i64 y_18)) (lt1 rfl) (.tmp rfl) one3 rfl)<| .cons (.move (lt1 rfl) (.tmp rfl))<| .cons (.keep (bw := false) (AStep.callV (us' := []) (avs := [.sc (.int .i64 y_18),.sc (.int .i64 x_16.1)]) (cs' := [.ptr 1 0,.ptr 2 0]) (σ := sgT [(1,1),(2,2)]) (bw := false) (lt1 rfl) (.tmp rfl) (c94 (β1 := β2) (β2 := β3) n y_18 x_16.1 a1_0_b0 a1_0_b1 a1_1_b0 hy_19) (.nil) (.cons (.tmp rfl) (.ren rfl) (.cons (.tmp rfl) (.ren rfl) (.nil))) (.cons (.ren rfl) (.cons (.ren rfl) (.nil))) (CallOk.mk' (.c rfl (.c rfl (.n))) rfl) (fun _ h => by cases h)) (CallOk.mk' (.c rfl (.c rfl (.n))) rfl) rfl rfl)<| .cons (.lss (lt1 rfl) (.tmp rfl) (.const _ _ _))<| ARun.nil _ _ _) ?_
        refine AWP.vc (s' := ⟨[(0,.rd β1 a0.length (a0.flatMap (encI .i64))),(1,.clo (.func 94) [] [.ptr 1 0,.ptr 2 0]),(5,.sc (.int .i64 x_16.1)),(6,.sc (.int .i64 x_16.2)),(27,.sc (.bool (decide (y_19 < (0 : Int)))))],[(1,⟨32,false,[.rd β2 a1_0_b0.length (a1_0_b0.flatMap encR45),.rd β3 a1_0_b1.length (a1_0_b1.flatMap encR93)]⟩),(2,⟨3,false,[.sc (.int .i64 a1_1_b0)]⟩)]⟩) (VC.sub (.c rfl<| .c rfl<| .c rfl<| .c rfl<| .c rfl<| .n _) (.c rfl<| .c rfl<| .n _)) ?_
        refine AWP.join' (S := fun p_21 : Int => ⟨[(0,.rd β1 a0.length (a0.flatMap (encI .i64))),(1,.clo (.func 94) [] [.ptr 1 0,.ptr 2 0]),(5,.sc (.int .i64 p_21)),(6,.sc (.int .i64 x_16.2))],[(1,⟨32,false,[.rd β2 a1_0_b0.length (a1_0_b0.flatMap encR45),.rd β3 a1_0_b1.length (a1_0_b1.flatMap encR93)]⟩),(2,⟨3,false,[.sc (.int .i64 a1_1_b0)]⟩)]⟩) h (fun p_21 h => ?_) (fun k_22 h => ?_)
        · obtain ⟨t6_23,ht6_23,h⟩ := letS h
          refine AWP.region (.cons (.move (lt1 rfl) (.tmp rfl))<| .cons (.add (lt1 rfl) (.tmp rfl) (.const _ _ _))<| .cons (.assign (lt1 rfl) (.tmp rfl))<| ARun.nil _ _ _) ?_
          exact endJ (p_21,t6_23) h (by subst ht6_23; exact VC.sub (.c rfl<| .c rfl<| .c rfl<| .c rfl<| .n _) (.c rfl<| .c rfl<| .n _))
        · refine AWP.cond (.tmp rfl) (fun hc => ?_) (fun hc => ?_)
          · have h := iteT hc h
            obtain ⟨y_20,hy_20,h⟩ := bindS h
            refine AWP.region (.cons (.move (lt1 rfl) (.tmp rfl))<| .cons (.move (lt1 rfl) (.tmp rfl))<| .cons (.indexRd (enc := (encI .i64)) (lt1 rfl) (.tmp rfl) (.tmp rfl) Try.underlying28 sz3 (encI_len .i64) rfl hy_20)<| .cons (.loadR (v := .sc (.int .i64 y_20)) (lt1 rfl) (.tmp rfl) one3 rfl)<| .cons (.assign (lt1 rfl) (.tmp rfl))<| ARun.nil _ _ _) ?_
            exact endJ y_20 h (VC.sub (.c rfl<| .c rfl<| .c rfl<| .c rfl<| .n _) (.c rfl<| .c rfl<| .n _))
          · have h := iteF hc h
            refine AWP.skip ?_
            exact endJ x_16.1 h (VC.sub (.c rfl<| .c rfl<| .c rfl<| .c rfl<| .n _) (.c rfl<| .c rfl<| .n _))
      · have h := iteF hc h
        refine AWP.exit ?_
        exact endJ x_16.1 h (VC.sub (.c rfl<| .n _) (.c rfl<| .c rfl<| .n _))
theorem c92 {β1 : Bool} {β2 : Bool} {β3 : Bool} (n : Nat) (a0 : (List Int)) (a1_b0 : (List R45)) (a1_b1 : (List R93)) (a2_b0 : Int) {r : (Int × Int)} (h : m92 n a0 a1_b0 a1_b1 a2_b0 = some r) : Spec Try.prog 92 [1,2] [.rd β1 a0.length (a0.flatMap (encI .i64)),.ptr 1 0,.ptr 2 0] [(1,⟨32,false,[.rd β2 a1_b0.length (a1_b0.flatMap encR45),.rd β3 a1_b1.length (a1_b1.flatMap encR93)]⟩),(2,⟨3,false,[.sc (.int .i64 a2_b0)]⟩)] (.sc (.int .i64 r.1)) [(1,⟨32,false,[.rd β2 a1_b0.length (a1_b0.flatMap encR45),.rd β3 a1_b1.length (a1_b1.flatMap encR93)]⟩),(2,⟨3,false,[.sc (.int .i64 r.2)]⟩)] := by
  refine Spec.of (fn := Try.f92) Try.func92 Try.ntmps92 rfl rfl (le1 rfl) (fun w0 Zs Zb T0 ι0 => ?_)
  unfold m92 at h
  refine AWP.seq ?_
  refine AWP.region (.cons (.assign (lt1 rfl) (.const _ _ _))<| ARun.nil _ _ _) ?_
  refine AWP.vc (s' := ⟨[(0,.rd β1 a0.length (a0.flatMap (encI .i64))),(1,.ptr 1 0),(2,.ptr 2 0)],[(1,⟨32,false,[.rd β2 a1_b0.length (a1_b0.flatMap encR45),.rd β3 a1_b1.length (a1_b1.flatMap encR93)]⟩),(2,⟨3,false,[.sc (.int .i64 a2_b0)]⟩)]⟩) (VC.sub (.c rfl<| .c rfl<| .c rfl<| .n _) (.c rfl<| .c rfl<| .n _)) ?_
  refine AWP.seq ?_
  obtain ⟨y_1,hy_1,h⟩ := bindS h
  refine AWP.region (.cons (.move (lt1 rfl) (.tmp rfl))<| .cons (.makeFunc (lt1 rfl) (.nil) (.cons (.tmp rfl) (.cons (.tmp rfl) (.nil))))<| .cons (.keep (bw := false) (AStep.call (σ := sgT [(1,1),(2,2)]) (bw := false) (lt1 rfl) (c93 (β1 := β1) (β2 := β2) (β3 := β3) n a0 a1_b0 a1_b1 a2_b0 hy_1) (.cons (.tmp rfl) (.ren rfl) (.cons (.tmp rfl) (.ren rfl) (.nil))) (CallOk.mk' (.c rfl (.c rfl (.n))) rfl)) (CallOk.mk' (.c rfl (.c rfl (.n))) rfl) rfl rfl)<| .cons (.storeP (.tmp rfl) (.tmp rfl) sz3 rfl (lt1 rfl) rfl (by intro h; cases h) rfl)<| ARun.nil _ _ _) ?_
  refine AWP.vc (s' := ⟨[(2,.ptr 2 0)],[(1,⟨32,false,[.rd β2 a1_b0.length (a1_b0.flatMap encR45),.rd β3 a1_b1.length (a1_b1.flatMap encR93)]⟩),(2,⟨3,false,[.sc (.int .i64 y_1)]⟩)]⟩) (VC.sub (.c rfl<| .n _) (.c rfl<| .c rfl<| .n _)) ?_
  refine AWP.seq ?_
  refine AWP.region (.cons (.loadP (lt1 rfl) (.tmp rfl) one3 rfl rfl rfl)<| .cons (.assign (lt1 rfl) (.tmp rfl))<| ARun.nil _ _ _) ?_
  refine AWP.ret ?_
  obtain rfl := Option.some.inj h
  refine retJ (Res.vc (s' := ⟨[(4,.sc (.int .i64 y_1))],[(1,⟨32,false,[.rd β2 a1_b0.length (a1_b0.flatMap encR45),.rd β3 a1_b1.length (a1_b1.flatMap encR93)]⟩),(2,⟨3,false,[.sc (.int .i64 y_1)]⟩)]⟩) (VC.sub (.c rfl<| .n _) (.c rfl<| .c rfl<| .n _)) ?_)
  refine Res.sub (H := [(1,⟨32,false,[.rd β2 a1_b0.length (a1_b0.flatMap encR45),.rd β3 a1_b1.length (a1_b1.flatMap encR93)]⟩),(2,⟨3,false,[.sc (.int .i64 y_1)]⟩)]) (.c rfl<| .c rfl<| .n _) ?_
  exact Res.of rfl (.cons (.tmp rfl) (.nil)) rfl rfl
theorem c58x1 {β1 : Bool} {β2 : Bool} {β3 : Bool} {β4 : Bool} (n : Nat) (a0 : R24) (a1_0_b0 : (List R45)) (a1_0_b1 : (List R93)) (a1_1_b0 : Int) {r : ((List Int) × Bool × Int)} (h : m58x1 n a0 a1_0_b0 a1_0_b1 a1_1_b0 = some r) : Spec Try.prog 58 [1,2] [.agg [.rd β1 a0.Points.length (a0.Points.flatMap encR45),.rd β2 a0.Before.length (a0.Before.flatMap encR93)],.clo (.func 92) [] [.ptr 1 0,.ptr 2 0]] [(1,⟨32,false,[.rd β3 a1_0_b0.length (a1_0_b0.flatMap encR45),.rd β4 a1_0_b1.length (a1_0_b1.flatMap encR93)]⟩),(2,⟨3,false,[.sc (.int .i64 a1_1_b0)]⟩)] (.tup [.rd false r.1.length (r.1.flatMap (encI .i64)),.sc (.bool r.2.1)]) [(1,⟨32,false,[.rd β3 a1_0_b0.length (a1_0_b0.flatMap encR45),.rd β4 a1_0_b1.length (a1_0_b1.flatMap encR93)]⟩),(2,⟨3,false,[.sc (.int .i64 r.2.2)]⟩)] := by
  refine Spec.of (fn := Try.f58) Try.func58 Try.ntmps58 rfl rfl (le1 rfl) (fun w0 Zs Zb T0 ι0 => ?_)
  unfold m58x1 at h
  refine AWP.seq ?_
  refine AWP.region (.cons (.box (t := 3) (n := 2) (lt1 rfl) (nm rfl) (.tmp rfl) (by first | exact ⟨rfl,rfl⟩ | rfl) rfl)<| .cons (.assign (lt1 rfl) (.const _ _ _))<| .cons (.assign (lt1 rfl) (.const _ _ _))<| ARun.nil _ _ _) ?_
  refine AWP.vc (s' := ⟨[(1,.clo (.func 92) [] [.ptr 1 0,.ptr 2 0]),(2,.ptr 3 0)],[(3,⟨32,false,[.rd β1 a0.Points.length (a0.Points.flatMap encR45),.rd β2 a0.Before.length (a0.Before.flatMap encR93)]⟩),(1,⟨32,false,[.rd β3 a1_0_b0.length (a1_0_b0.flatMap encR45),.rd β4 a1_0_b1.length (a1_0_b1.flatMap encR93)]⟩),(2,⟨3,false,[.sc (.int .i64 a1_1_b0)]⟩)]⟩) (VC.sub (.c rfl<| .c rfl<| .n _) (.c rfl<| .c rfl<| .c rfl<| .n _)) ?_
  refine AWP.seq ?_
  refine AWP.region (.cons (.buildSlice (t := 4) (out := ([(0 : Int)] : List Int).flatMap (encI .i64)) (lt1 rfl) (nm rfl) (.cons (.const _ _ _) (by first | exact ⟨rfl,rfl⟩ | rfl) (.nil)) Try.underlying28 zero3 el3 (by decide) (by decide) rfl (still_all (encI_still .i64) _))<| .cons (.assign (lt1 rfl) (.tmp rfl))<| ARun.nil _ _ _) ?_
  refine AWP.vc (s' := ⟨[(1,.clo (.func 92) [] [.ptr 1 0,.ptr 2 0]),(2,.ptr 3 0),(6,.own 4 1 0 ([(0 : Int)] : List Int).length)],[(4,⟨3,true,([(0 : Int)] : List Int).flatMap (encI .i64)⟩),(3,⟨32,false,[.rd β1 a0.Points.length (a0.Points.flatMap encR45),.rd β2 a0.Before.length (a0.Before.flatMap encR93)]⟩),(1,⟨32,false,[.rd β3 a1_0_b0.length (a1_0_b0.flatMap encR45),.rd β4 a1_0_b1.length (a1_0_b1.flatMap encR93)]⟩),(2,⟨3,false,[.sc (.int .i64 a1_1_b0)]⟩)]⟩) (VC.sub (.c rfl<| .c rfl<| .c rfl<| .n _) (.c rfl<| .c rfl<| .c rfl<| .c rfl<| .n _)) ?_
  refine AWP.seq ?_
  refine AWP.joinB' (S := fun p_14 : Int × (List Int) => ⟨[(6,.own 4 1 0 p_14.2.length)],[(1,⟨32,false,[.rd β3 a1_0_b0.length (a1_0_b0.flatMap encR45),.rd β4 a1_0_b1.length (a1_0_b1.flatMap encR93)]⟩),(2,⟨3,false,[.sc (.int .i64 p_14.1)]⟩),(4,⟨3,true,p_14.2.flatMap (encI .i64)⟩)]⟩) h (fun p_14 h => ?_) (fun k_15 h => ?_)
  · refine AWP.seq ?_
    refine AWP.region (.cons (.move (lt1 rfl) (.tmp rfl))<| .cons (.assign (lt1 rfl) (.tmp rfl))<| .cons (.assign (lt1 rfl) (.const _ _ _))<| ARun.nil _ _ _) ?_
    refine AWP.ret ?_
    obtain rfl := Option.some.inj h
    refine retJ (Res.vc (s' := ⟨[(4,.rd false p_14.2.length (p_14.2.flatMap (encI .i64))),(5,.sc (.bool true))],[(1,⟨32,false,[.rd β3 a1_0_b0.length (a1_0_b0.flatMap encR45),.rd β4 a1_0_b1.length (a1_0_b1.flatMap encR93)]⟩),(2,⟨3,false,[.sc (.int .i64 p_14.1)]⟩)]⟩) (VC.trans (VC.frz (d := 4) (t := 4) rfl rfl (encI_len .i64)) (VC.sub (.c rfl<| .c rfl<| .n _) (.c rfl<| .c rfl<| .n _))) ?_)
    refine Res.sub (H := [(1,⟨32,false,[.rd β3 a1_0_b0.length (a1_0_b0.flatMap encR45),.rd β4 a1_0_b1.length (a1_0_b1.flatMap encR93)]⟩),(2,⟨3,false,[.sc (.int .i64 p_14.1)]⟩)]) (.c rfl<| .c rfl<| .n _) ?_
    exact Res.of rfl (.cons (.tmp rfl) (.cons (.tmp rfl) (.nil))) rfl rfl
  · refine AWP.vc (s' := ⟨[(1,.clo (.func 92) [] [.ptr 1 0,.ptr 2 0]),(2,.ptr 3 0),(6,.own 4 1 0 ([(0 : Int)] : List Int).length)],[(1,⟨32,false,[.rd β3 a1_0_b0.length (a1_0_b0.flatMap encR45),.rd β4 a1_0_b1.length (a1_0_b1.flatMap encR93)]⟩),(2,⟨3,false,[.sc (.int .i64 a1_1_b0)]⟩),(3,⟨32,false,[.rd β1 a0.Points.length (a0.Points.flatMap encR45),.rd β2 a0.Before.length (a0.Before.flatMap encR93)]⟩),(4,⟨3,true,([(0 : Int)] : List Int).flatMap (encI .i64)⟩)]⟩) (VC.sub (.c rfl<| .c rfl<| .c rfl<| .n _) (.c rfl<| .c rfl<| .c rfl<| .c rfl<| .n _)) ?_
    refine AWP.loopM (S := fun x_9 : Int × (List Int) => ⟨[(1,.clo (.func 92) [] [.ptr 1 0,.ptr 2 0]),(2,.ptr 3 0),(6,.own 4 1 0 x_9.2.length)],[(1,⟨32,false,[.rd β3 a1_0_b0.length (a1_0_b0.flatMap encR45),.rd β4 a1_0_b1.length (a1_0_b1.flatMap encR93)]⟩),(2,⟨3,false,[.sc (.int .i64 x_9.1)]⟩),(3,⟨32,false,[.rd β1 a0.Points.length (a0.Points.flatMap encR45),.rd β2 a0.Before.length (a0.Before.flatMap encR93)]⟩),(4,⟨3,true,x_9.2.flatMap (encI .i64)⟩)]⟩) (x := (a1_1_b0,([(0 : Int)] : List Int))) (fun nx_10 x_9 h => ?_) h
    unfold m58x1_L1 at h
    refine AWP.seq ?_
    refine AWP.seq ?_
    refine AWP.region (.cons (.move (lt1 rfl) (.tmp rfl))<| .cons (.lenOwn (lt1 rfl) (.tmp rfl) Try.underlying28)<| .cons (.fieldP (lt1 rfl) (.tmp rfl) fld32_0)<| .cons (.loadP (lt1 rfl) (.tmp rfl) one22 rfl rfl rfl)<| .cons (.lenRd (lt1 rfl) (.tmp rfl) Try.underlying22)<| .cons (.lss (lt1 rfl) (.tmp rfl) (.tmp rfl))<| ARun.nil _ _ _) ?_
    refine AWP.vc (s' := ⟨[(1,.clo (.func 92) [] [.ptr 1 0,.ptr 2 0]),(2,.ptr 3 0),(6,.own 4 1 0 x_9.2.length),(14,.sc (.bool (decide ((x_9.2.length : Int) < (a0.Points.length : Int)))))],[(1,⟨32,false,[.rd β3 a1_0_b0.length (a1_0_b0.flatMap encR45),.rd β4 a1_0_b1.length (a1_0_b1.flatMap encR93)]⟩),(2,⟨3,false,[.sc (.int .i64 x_9.1)]⟩),(3,⟨32,false,[.rd β1 a0.Points.length (a0.Points.flatMap encR45),.rd β2 a0.Before.length (a0.Before.flatMap encR93)]⟩),(4,⟨3,true,x_9.2.flatMap (encI .i64)⟩)]⟩) (VC.sub (.c rfl<| .c rfl<| .c rfl<| .c rfl<| .n _) (.c rfl<| .c rfl<| .c rfl<| .c rfl<| .n _)) ?_
    refine AWP.cond (.tmp rfl) (fun hc => ?_) (fun hc => ?_)
    · have h := iteT hc h
      refine AWP.skip ?_
      refine AWP.block ?_
      refine AWP.seq ?_
      obtain ⟨y_11,hy_11,h⟩ := bindS h
      refine AWP.region (.cons (.loadPA (lt1 rfl) (.tmp rfl) agg32 rfl rfl rfl rfl)<| .cons (.move (lt1 rfl) (.tmp rfl))<| .cons (.call0 (bw := true) (lt1 rfl) (c62 (β1 := β1) (β2 := β2) (β3 := true) n (R24.mk a0.Points a0.Before) x_9.2 hy_11) (.cons (.tmp rfl) (.ren rfl) (.cons (.tmp rfl) (.lendRow rfl rfl (encI_len .i64) rfl) (.nil))) rfl)<| .cons (.assign (lt1 rfl) (.tmp rfl))<| ARun.nil _ _ _) ?_
      refine AWP.vc (s' := ⟨[(1,.clo (.func 92) [] [.ptr 1 0,.ptr 2 0]),(2,.ptr 3 0),(6,.own 4 1 0 x_9.2.length),(7,.rd false y_11.length (y_11.flatMap (encI .i64)))],[(1,⟨32,false,[.rd β3 a1_0_b0.length (a1_0_b0.flatMap encR45),.rd β4 a1_0_b1.length (a1_0_b1.flatMap encR93)]⟩),(2,⟨3,false,[.sc (.int .i64 x_9.1)]⟩),(3,⟨32,false,[.rd β1 a0.Points.length (a0.Points.flatMap encR45),.rd β2 a0.Before.length (a0.Before.flatMap encR93)]⟩),(4,⟨3,true,x_9.2.flatMap (encI .i64)⟩)]⟩) (VC.sub (.c rfl<| .c rfl<| .c rfl<| .c rfl<| .n _) (.c rfl<| .c rfl<| .c rfl<| .c rfl<| .n _)) ?_
      refine AWP.seq ?_
      refine AWP.seq ?_
      refine AWP.region (.cons (.move (lt1 rfl) (.tmp rfl))<| .cons (.lenRd (lt1 rfl) (.tmp rfl) Try.underlying28)<| .cons (.eql (lt1 rfl) (.tmp rfl) (.const _ _ _))<| ARun.nil _ _ _) ?_
      refine AWP.vc (s' := ⟨[(1,.clo (.func 92) [] [.ptr 1 0,.ptr 2 0]),(2,.ptr 3 0),(6,.own 4 1 0 x_9.2.length),(7,.rd false y_11.length (y_11.flatMap (encI .i64))),(20,.sc (.bool (decide ((y_11.length : Int) = (0 : Int)))))],[(1,⟨32,false,[.rd β3 a1_0_b0.length (a1_0_b0.flatMap encR45),.rd β4 a1_0_b1.length (a1_0_b1.flatMap encR93)]⟩),(2,⟨3,false,[.sc (.int .i64 x_9.1)]⟩),(3,⟨32,false,[.rd β1 a0.Points.length (a0.Points.flatMap encR45),.rd β2 a0.Before.length (a0.Before.flatMap encR93)]⟩),(4,⟨3,true,x_9.2.flatMap (encI .i64)⟩)]⟩) (VC.sub (.c rfl<| .c rfl<| .c rfl<| .c rfl<| .c rfl<| .n _) (.c rfl<| .c rfl<| .c rfl<| .c rfl<| .n _)) ?_
      refine AWP.cond (.tmp rfl) (fun hc => ?_) (fun hc => ?_)
      · have h := iteT hc h
        refine AWP.seq ?_
        refine AWP.region (.cons (.assign (lt1 rfl) (.const _ _ _))<| .cons (.assign (lt1 rfl) (.const _ _ _))<| ARun.nil _ _ _) ?_
        refine AWP.ret ?_
        obtain rfl := Option.some.inj h
        refine retJ (Res.vc (s' := ⟨[(4,.rd false ([] : List Int).length (([] : List Int).flatMap (encI .i64))),(5,.sc (.bool false))],[(1,⟨32,false,[.rd β3 a1_0_b0.length (a1_0_b0.flatMap encR45),.rd β4 a1_0_b1.length (a1_0_b1.flatMap encR93)]⟩),(2,⟨3,false,[.sc (.int .i64 x_9.1)]⟩)]⟩) (VC.trans (VC.nilRd (d := 4) false rfl) (VC.sub (.c rfl<| .c rfl<| .n _) (.c rfl<| .c rfl<| .n _))) ?_)
        refine Res.sub (H := [(1,⟨32,false,[.rd β3 a1_0_b0.length (a1_0_b0.flatMap encR45),.rd β4 a1_0_b1.length (a1_0_b1.flatMap encR93)]⟩),(2,⟨3,false,[.sc (.int .i64 x_9.1)]⟩)]) (.c rfl<| .c rfl<| .n _) ?_
        exact Res.of rfl (.cons (.tmp rfl) (.cons (.tmp rfl) (.nil))) rfl rfl
      · have h := iteF hc h
        refine AWP.skip ?_
        obtain ⟨y_12,hy_12,h⟩ := bindS h
        obtain ⟨l4_13,hl4_13,h⟩ := bindS h
        refine AWP.region (.cons (.move (lt1 rfl) (.tmp rfl))<| .cons (.move (lt1 rfl) (.tmp rfl))<| .cons (.move (lt1 rfl) (.tmp rfl))<| .cons (.callV (us' := []) (avs := [.rd false y_11.length (y_11.flatMap (encI .i64))]) (cs' := [.ptr 1 0,.ptr 2 0]) (σ := sgT [(1,1),(2,2)]) (bw := false) (lt1 rfl) (.tmp rfl) (c92 (β1 := false) (β2 := β3) (β3 := β4) n y_11 a1_0_b0 a1_0_b1 x_9.1 hy_12) (.nil) (.cons (.tmp rfl) (.ren rfl) (.nil)) (.cons (.ren rfl) (.cons (.ren rfl) (.nil))) (CallOk.mk' (.c rfl (.c rfl (.n))) rfl) (fun _ h => by cases h))<| .cons (.buildSlice (t := 5) (out := ([y_12.1] : List Int).flatMap (encI .i64)) (lt1 rfl) (nm rfl) (.cons (.tmp rfl) (by first | exact ⟨rfl,rfl⟩ | rfl) (.nil)) Try.underlying28 zero3 el3 (by decide) (by decide) rfl (still_all (encI_still .i64) _))<| .cons (.app (enc := (encI .i64)) (lt1 rfl) (nm rfl) (.tmp rfl) (Src.own (.tmp rfl) rfl (lendAll (encI_len .i64) _) (flatMap_length (encI_len .i64) _) (one_all (encI_one .i64) _) (.inl rfl)) Try.underlying28 ⟨_,Try.underlying28,by intro k hk; cases hk⟩ el3 rfl (encI_len .i64) rfl rfl (by decide) hl4_13)<| .cons (.assign (lt1 rfl) (.tmp rfl))<| ARun.nil _ _ _) ?_
        exact endJ (y_12.2,l4_13) h (VC.sub (.c rfl<| .c rfl<| .c rfl<| .n _) (.c rfl<| .c rfl<| .c rfl<| .c rfl<| .n _))
    · have h := iteF hc h
      refine AWP.exit ?_
      exact endJ (x_9.1,x_9.2) h (VC.sub (.c rfl<| .n _) (.c rfl<| .c rfl<| .c rfl<| .n _))
theorem c69 {β1 : Bool} {β2 : Bool} (n : Nat) (a0 : R24) {r : (List Int)} (h : m69 n a0 = some r) : Spec Try.prog 69 [] [.agg [.rd β1 a0.Points.length (a0.Points.flatMap encR45),.rd β2 a0.Before.length (a0.Before.flatMap encR93)]] [] (.rd false r.length (r.flatMap (encI .i64))) [] := by
  refine Spec.of (fn := Try.f69) Try.func69 Try.ntmps69 rfl rfl (le1 rfl) (fun w0 Zs Zb T0 ι0 => ?_)
  unfold m69 at h
  refine AWP.seq ?_
  refine AWP.region (.cons (.box (t := 1) (n := 2) (lt1 rfl) (nm rfl) (.tmp rfl) (by first | exact ⟨rfl,rfl⟩ | rfl) rfl)<| .cons (.assign (lt1 rfl) (.const _ _ _))<| ARun.nil _ _ _) ?_
  refine AWP.vc (s' := ⟨[(1,.ptr 1 0)],[(1,⟨32,false,[.rd β1 a0.Points.length (a0.Points.flatMap encR45),.rd β2 a0.Before.length (a0.Before.flatMap encR93)]⟩)]⟩) (VC.sub (.c rfl<| .n _) (.c rfl<| .n _)) ?_
  refine AWP.seq ?_
  refine AWP.region (.cons (.alloc (t := 2) (k := ⟨3,false,[.sc (.int .i64 (0 : Int))]⟩) (lt1 rfl) (nm rfl) zero3 rfl rfl)<| .cons (.storeP (.tmp rfl) (.const _ _ _) sz3 rfl (lt1 rfl) rfl (by intro h; cases h) rfl)<| ARun.nil _ _ _) ?_
  refine AWP.vc (s' := ⟨[(1,.ptr 1 0),(3,.ptr 2 0)],[(2,⟨3,false,[.sc (.int .i64 (0 : Int))]⟩),(1,⟨32,false,[.rd β1 a0.Points.length (a0.Points.flatMap encR45),.rd β2 a0.Before.length (a0.Before.flatMap encR93)]⟩)]⟩) (VC.sub (.c rfl<| .c rfl<| .n _) (.c rfl<| .c rfl<| .n _)) ?_
  refine AWP.seq ?_
  obtain ⟨y_1,hy_1,h⟩ := bindS h
  refine AWP.region (.cons (.loadPA (lt1 rfl) (.tmp rfl) agg32 rfl rfl rfl rfl)<| .cons (.makeFunc (lt1 rfl) (.nil) (.cons (.tmp rfl) (.cons (.tmp rfl) (.nil))))<| .cons (.call (σ := sgT [(1,1),(2,2)]) (bw := false) (lt1 rfl) (c58x1 (β1 := β1) (β2 := β2) (β3 := β1) (β4 := β2) n (R24.mk a0.Points a0.Before) a0.Points a0.Before (0 : Int) hy_1) (.cons (.tmp rfl) (.ren rfl) (.cons (.tmp rfl) (.ren rfl) (.nil))) (CallOk.mk' (.c rfl (.c rfl (.n))) rfl))<| .cons (.move (lt1 rfl) (.tmp rfl))<| .cons (.extract (lt1 rfl) (.tmp rfl) rfl)<| .cons (.extract (lt1 rfl) (.tmp rfl) rfl)<| .cons (.assign (lt1 rfl) (.tmp rfl))<| .cons (.assign (lt1 rfl) (.tmp rfl))<| ARun.nil _ _ _) ?_
  refine AWP.vc (s' := ⟨[(4,.rd false y_1.1.length (y_1.1.flatMap (encI .i64)))],[]⟩) (VC.sub (.c rfl<| .n _) (.n _)) ?_
  refine AWP.seq ?_
  refine AWP.region (.cons (.move (lt1 rfl) (.tmp rfl))<| .cons (.assign (lt1 rfl) (.tmp rfl))<| ARun.nil _ _ _) ?_
  refine AWP.ret ?_
  obtain rfl := Option.some.inj h
  refine retJ (Res.vc (s' := ⟨[(2,.rd false y_1.1.length (y_1.1.flatMap (encI .i64)))],[]⟩) (VC.sub (.c rfl<| .n _) (.n _)) ?_)
  refine Res.drop (H := []) rfl ?_
  exact Res.of rfl (.cons (.tmp rfl) (.nil)) rfl rfl
theorem c31 {β1 : Bool} {β2 : Bool} (n : Nat) (a0 : R24) {r : ((List Int) × Int)} (h : m31 n a0 = some r) : Spec Try.prog 31 [] [.agg [.rd β1 a0.Points.length (a0.Points.flatMap encR45),.rd β2 a0.Before.length (a0.Before.flatMap encR93)]] [] (.tup [.rd false r.1.length (r.1.flatMap (encI .i64)),.sc (.int .i64 r.2)]) [] := by
  refine Spec.of (fn := Try.f31) Try.func31 Try.ntmps31 rfl rfl (le1 rfl) (fun w0 Zs Zb T0 ι0 => ?_)
  unfold m31 at h
  refine AWP.seq ?_
  refine AWP.region (.cons (.box (t := 1) (n := 2) (lt1 rfl) (nm rfl) (.tmp rfl) (by first | exact ⟨rfl,rfl⟩ | rfl) rfl)<| .cons (.assign (lt1 rfl) (.const _ _ _))<| .cons (.assign (lt1 rfl) (.const _ _ _))<| ARun.nil _ _ _) ?_
  refine AWP.vc (s' := ⟨[(1,.ptr 1 0)],[(1,⟨32,false,[.rd β1 a0.Points.length (a0.Points.flatMap encR45),.rd β2 a0.Before.length (a0.Before.flatMap encR93)]⟩)]⟩) (VC.sub (.c rfl<| .n _) (.c rfl<| .n _)) ?_
  refine AWP.seq ?_
  refine AWP.seq ?_
  obtain ⟨y_1,hy_1,h⟩ := bindS h
  refine AWP.region (.cons (.loadPA (lt1 rfl) (.tmp rfl) agg32 rfl rfl rfl rfl)<| .cons (.call0 (bw := false) (lt1 rfl) (c22 (β1 := β1) (β2 := β2) n (R24.mk a0.Points a0.Before) hy_1) (.cons (.tmp rfl) (.ren rfl) (.nil)) rfl)<| .cons (.not (lt1 rfl) (.tmp rfl))<| ARun.nil _ _ _) ?_
  refine AWP.vc (s' := ⟨[(1,.ptr 1 0),(6,.sc (.bool (!y_1)))],[(1,⟨32,false,[.rd β1 a0.Points.length (a0.Points.flatMap encR45),.rd β2 a0.Before.length (a0.Before.flatMap encR93)]⟩)]⟩) (VC.sub (.c rfl<| .c rfl<| .n _) (.c rfl<| .n _)) ?_
  refine AWP.cond (.tmp rfl) (fun hc => ?_) (fun hc => ?_)
  · have h := iteT hc h
    refine AWP.seq ?_
    refine AWP.region (.cons (.assign (lt1 rfl) (.const _ _ _))<| .cons (.assign (lt1 rfl) (.const _ _ _))<| ARun.nil _ _ _) ?_
    refine AWP.ret ?_
    obtain rfl := Option.some.inj h
    refine retJ (Res.vc (s' := ⟨[(2,.rd false ([] : List Int).length (([] : List Int).flatMap (encI .i64))),(3,.sc (.int .i64 (1 : Int)))],[]⟩) (VC.trans (VC.nilRd (d := 2) false rfl) (VC.sub (.c rfl<| .c rfl<| .n _) (.n _))) ?_)
    refine Res.drop (H := []) rfl ?_
    exact Res.of rfl (.cons (.tmp rfl) (.cons (.tmp rfl) (.nil))) rfl rfl
  · have h := iteF hc h
    refine AWP.skip ?_
    refine AWP.seq ?_
    obtain ⟨y_2,hy_2,h⟩ := bindS h
    refine AWP.region (.cons (.loadPA (lt1 rfl) (.tmp rfl) agg32 rfl rfl rfl rfl)<| .cons (.call0 (bw := false) (lt1 rfl) (c69 (β1 := β1) (β2 := β2) n (R24.mk a0.Points a0.Before) hy_2) (.cons (.tmp rfl) (.ren rfl) (.nil)) rfl)<| .cons (.assign (lt1 rfl) (.tmp rfl))<| .cons (.assign (lt1 rfl) (.const _ _ _))<| ARun.nil _ _ _) ?_
    refine AWP.ret ?_
    obtain rfl := Option.some.inj h
    refine retJ (Res.vc (s' := ⟨[(2,.rd false y_2.length (y_2.flatMap (encI .i64))),(3,.sc (.int .i64 (0 : Int)))],[]⟩) (VC.sub (.c rfl<| .c rfl<| .n _) (.n _)) ?_)
    refine Res.drop (H := []) rfl ?_
    exact Res.of rfl (.cons (.tmp rfl) (.cons (.tmp rfl) (.nil))) rfl rfl
theorem c95 (n : Nat) (a0_b : (List Int)) (a0_n : Nat) (a0_o : Nat) {r : (List Int)} (h : m95 n a0_b a0_n a0_o = some r) : Spec Try.prog 95 [1] [.own 1 1 a0_o a0_n] [(1,⟨3,true,a0_b.flatMap (encI .i64)⟩)] (.tup []) [(1,⟨3,true,r.flatMap (encI .i64)⟩)] := by
  refine Spec.of (fn := Try.f95) Try.func95 Try.ntmps95 rfl rfl (le1 rfl) (fun w0 Zs Zb T0 ι0 => ?_)
  unfold m95 at h
  refine AWP.seq ?_
  obtain ⟨t3_1,ht3_1,h⟩ := letS h
  refine AWP.region (.cons (.move (lt1 rfl) (.tmp rfl))<| .cons (.lenOwn (lt1 rfl) (.tmp rfl) Try.underlying28)<| .cons (.sub (lt1 rfl) (.tmp rfl) (.const _ _ _))<| .cons (.assign (lt1 rfl) (.const _ _ _))<| .cons (.assign (lt1 rfl) (.tmp rfl))<| ARun.nil _ _ _) ?_
  refine AWP.vc (s' := ⟨[(0,.own 1 1 a0_o a0_n),(2,.sc (.int .i64 (0 : Int))),(3,.sc (.int .i64 t3_1))],[(1,⟨3,true,a0_b.flatMap (encI .i64)⟩)]⟩) (by subst ht3_1; exact VC.sub (.c rfl<| .c rfl<| .c rfl<| .n _) (.c rfl<| .n _)) ?_
  refine AWP.joinB' (S := fun p_30 : (List Int) => ⟨[],[(1,⟨3,true,p_30.flatMap (encI .i64)⟩)]⟩) h (fun p_30 h => ?_) (fun k_31 h => ?_)
  · obtain rfl := Option.some.inj h
    refine norJ (Res.vc (s' := ⟨[],[(1,⟨3,true,p_30.flatMap (encI .i64)⟩)]⟩) (VC.sub (.n _) (.c rfl<| .n _)) ?_)
    refine Res.sub (H := [(1,⟨3,true,p_30.flatMap (encI .i64)⟩)]) (.c rfl<| .n _) ?_
    exact Res.of rfl (.nil) rfl rfl
  · refine AWP.vc (s' := ⟨[(0,.own 1 1 a0_o a0_n),(2,.sc (.int .i64 (0 : Int))),(3,.sc (.int .i64 t3_1))],[(1,⟨3,true,a0_b.flatMap (encI .i64)⟩)]⟩) (VC.sub (.c rfl<| .c rfl<| .c rfl<| .n _) (.c rfl<| .n _)) ?_
    refine AWP.loopM (S := fun x_20 : Int × Int × (List Int) => ⟨[(0,.own 1 1 a0_o a0_n),(2,.sc (.int .i64 x_20.1)),(3,.sc (.int .i64 x_20.2.1))],[(1,⟨3,true,x_20.2.2.flatMap (encI .i64)⟩)]⟩) (x := ((0 : Int),t3_1,a0_b)) (fun nx_21 x_20 h => ?_) h
    unfold m95_L1 at h
    refine AWP.seq ?_
    refine AWP.seq ?_
    refine AWP.region (.cons (.move (lt1 rfl) (.tmp rfl))<| .cons (.move (lt1 rfl) (.tmp rfl))<| .cons (.lss (lt1 rfl) (.tmp rfl) (.tmp rfl))<| ARun.nil _ _ _) ?_
    refine AWP.vc (s' := ⟨[(0,.own 1 1 a0_o a0_n),(2,.sc (.int .i64 x_20.1)),(3,.sc (.int .i64 x_20.2.1)),(9,.sc (.bool (decide (x_20.1 < x_20.2.1))))],[(1,⟨3,true,x_20.2.2.flatMap (encI .i64)⟩)]⟩) (VC.sub (.c rfl<| .c rfl<| .c rfl<| .c rfl<| .n _) (.c rfl<| .n _)) ?_
    refine AWP.cond (.tmp rfl) (fun hc => ?_) (fun hc => ?_)
    · have h := iteT hc h
      refine AWP.skip ?_
      refine AWP.seq ?_
      refine AWP.block ?_
      obtain ⟨y_22,hy_22,h⟩ := bindS h
      obtain ⟨y_23,hy_23,h⟩ := bindS h
      obtain ⟨y_24,hy_24,h⟩ := bindS h
      obtain ⟨l1_25,hl1_25,h⟩ := bindS h
      obtain ⟨y_26,hy_26,h⟩ := bindS h
      obtain ⟨l1_27,hl1_27,h⟩ := bindS h
      refine AWP.draw (s' := ⟨[(0,.own 1 1 a0_o a0_n),(2,.sc (.int .i64 x_20.1)),(3,.sc (.int .i64 x_20.2.1))],[(1,⟨3,true,l1_27.flatMap (encI .i64)⟩)]⟩) mixed [⟨0,.own 1 1 a0_o a0_n,none,[]⟩,⟨2,.sc (.int .i64 x_20.1),none,[]⟩,⟨3,.sc (.int .i64 x_20.2.1),none,[]⟩,⟨9,.sc (.bool (decide (x_20.1 < x_20.2.1))),none,[]⟩,⟨14,.own 1 1 a0_o a0_n,some 0,[]⟩,⟨15,.sc (.int .i64 x_20.1),some 1,[]⟩,⟨16,.own 1 1 a0_o a0_n,some 2,[]⟩,⟨17,.sc (.int .i64 x_20.2.1),some 3,[]⟩,⟨18,.own 1 1 a0_o a0_n,some 4,[]⟩,⟨19,.sc (.int .i64 x_20.2.1),some 5,[]⟩,⟨20,.ptr 1 (0 + (((a0_o + (x_20.2.1).toNat : Nat) : Int)).toNat * 1),some 6,[]⟩,⟨21,.sc (.int .i64 y_22),some 7,[]⟩,⟨22,.own 1 1 a0_o a0_n,some 8,[]⟩,⟨23,.sc (.int .i64 x_20.1),some 9,[]⟩,⟨24,.ptr 1 (0 + (((a0_o + (x_20.1).toNat : Nat) : Int)).toNat * 1),some 10,[]⟩,⟨25,.sc (.int .i64 y_23),some 11,[]⟩,⟨26,.ptr 1 (0 + (((a0_o + (x_20.1).toNat : Nat) : Int)).toNat * 1),some 12,[]⟩,⟨27,.ptr 1 (0 + (((a0_o + (x_20.2.1).toNat : Nat) : Int)).toNat * 1),some 14,[]⟩] [⟨[0],0,0,some (14,.own 1 1 a0_o a0_n),[]⟩,⟨[1],0,2,some (15,.sc (.int .i64 x_20.1)),[]⟩,⟨[0],0,1,some (16,.own 1 1 a0_o a0_n),[]⟩,⟨[2],0,2,some (17,.sc (.int .i64 x_20.2.1)),[]⟩,⟨[0],0,0,some (18,.own 1 1 a0_o a0_n),[]⟩,⟨[2],0,2,some (19,.sc (.int .i64 x_20.2.1)),[]⟩,⟨[8,9],0,0,some (20,.ptr 1 (0 + (((a0_o + (x_20.2.1).toNat : Nat) : Int)).toNat * 1)),[]⟩,⟨[10],0,0,some (21,.sc (.int .i64 y_22)),[]⟩,⟨[0],0,0,some (22,.own 1 1 a0_o a0_n),[]⟩,⟨[1],0,2,some (23,.sc (.int .i64 x_20.1)),[]⟩,⟨[12,13],0,0,some (24,.ptr 1 (0 + (((a0_o + (x_20.1).toNat : Nat) : Int)).toNat * 1)),[]⟩,⟨[14],0,0,some (25,.sc (.int .i64 y_23)),[]⟩,⟨[4,5],0,0,some (26,.ptr 1 (0 + (((a0_o + (x_20.1).toNat : Nat) : Int)).toNat * 1)),[]⟩,⟨[16,11],0,0,none,[]⟩,⟨[6,7],1,1,some (27,.ptr 1 (0 + (((a0_o + (x_20.2.1).toNat : Nat) : Int)).toNat * 1)),[]⟩,⟨[17,15],1,1,none,[]⟩] [13,15] [[(1,⟨3,true,x_20.2.2.flatMap (encI .i64)⟩)],[(1,⟨3,true,l1_25.flatMap (encI .i64)⟩)],[(1,⟨3,true,l1_27.flatMap (encI .i64)⟩)]] [[],[],[],[],[],[],[4,5],[4,5,6],[],[],[8,9],[8,9,10],[0,1,4,5,6,7,8,9,10,11],[0,1,4,5,6,7,8,9,10,11,12],[0,1,2,3,4,5,6,7,8,9,10,11,12,13],[0,1,2,3,4,5,6,7,8,9,10,11,12,13,14]] (by kernel_rfl) (by kernel_rfl) (BornL.ok (.o<| .o<| .o<| .o<| .b rfl rfl<| .b rfl rfl<| .b rfl rfl<| .b rfl rfl<| .b rfl rfl<| .b rfl rfl<| .b rfl rfl<| .b rfl rfl<| .b rfl rfl<| .b rfl rfl<| .b rfl rfl<| .b rfl rfl<| .b rfl rfl<| .b rfl rfl<| .n)) (BaseL.ok (.o rfl<| .o rfl<| .o rfl<| .o rfl<| .b<| .b<| .b<| .b<| .b<| .b<| .b<| .b<| .b<| .b<| .b<| .b<| .b<| .b<| .n)) rfl (by decide) (allLt rfl) (.read rfl (.c (.put (fun E hE => .move (lt1 rfl) (.tmp (hE.at (k := 0) rfl)))) (.n))<| .pure rfl (fun H => .put (fun E hE => .move (lt1 rfl) (.tmp (hE.at (k := 0) rfl))))<| .read rfl (.c (.put (fun E hE => .move (lt1 rfl) (.tmp (hE.at (k := 0) rfl)))) (.c (.put (fun E hE => .move (lt1 rfl) (.tmp (hE.at (k := 0) rfl)))) (.n)))<| .pure rfl (fun H => .put (fun E hE => .move (lt1 rfl) (.tmp (hE.at (k := 0) rfl))))<| .read rfl (.c (.put (fun E hE => .move (lt1 rfl) (.tmp (hE.at (k := 0) rfl)))) (.n))<| .pure rfl (fun H => .put (fun E hE => .move (lt1 rfl) (.tmp (hE.at (k := 0) rfl))))<| .read rfl (.c (.put (fun E hE => .idxPart (lt1 rfl) (.tmp (hE.at (k := 0) rfl)) (.tmp (hE.at (k := 1) rfl)) Try.underlying28 sz3 hy_22)) (.n))<| .read rfl (.c (.put (fun E hE => .loadP (lt1 rfl) (.tmp (hE.at (k := 0) rfl)) one3 rfl (cell_at1 (encI_len .i64) (gipS hy_22)) rfl)) (.n))<| .read rfl (.c (.put (fun E hE => .move (lt1 rfl) (.tmp (hE.at (k := 0) rfl)))) (.n))<| .pure rfl (fun H => .put (fun E hE => .move (lt1 rfl) (.tmp (hE.at (k := 0) rfl))))<| .read rfl (.c (.put (fun E hE => .idxPart (lt1 rfl) (.tmp (hE.at (k := 0) rfl)) (.tmp (hE.at (k := 1) rfl)) Try.underlying28 sz3 hy_23)) (.n))<| .read rfl (.c (.put (fun E hE => .loadP (lt1 rfl) (.tmp (hE.at (k := 0) rfl)) one3 rfl (cell_at1 (encI_len .i64) (gipS hy_23)) rfl)) (.n))<| .read rfl (.c (.put (fun E hE => .idxPart (lt1 rfl) (.tmp (hE.at (k := 0) rfl)) (.tmp (hE.at (k := 1) rfl)) Try.underlying28 sz3 hy_24)) (.n))<| .turn rfl rfl rfl rfl rfl (.store (fun E hE => .storeP (.tmp (hE.at (k := 0) rfl)) (.tmp (hE.at (k := 1) rfl)) sz3 rfl (lt_at1 (encI_len .i64) (gipS hy_24)) rfl (fun _ => rfl) (set_at1 (encI_len .i64) hl1_25 rfl)) rfl)<| .read rfl (.c (.put (fun E hE => .idxPart (lt1 rfl) (.tmp (hE.at (k := 0) rfl)) (.tmp (hE.at (k := 1) rfl)) Try.underlying28 sz3 hy_26)) (.n))<| .turn rfl rfl rfl rfl rfl (.store (fun E hE => .storeP (.tmp (hE.at (k := 0) rfl)) (.tmp (hE.at (k := 1) rfl)) sz3 rfl (lt_at1 (encI_len .i64) (gipS hy_26)) rfl (fun _ => rfl) (set_at1 (encI_len .i64) hl1_27 rfl)) rfl)<| .nil _) (fun E hE => .c (DInv.at hE (k := 0) rfl rfl rfl)<| .c (DInv.at hE (k := 1) rfl rfl rfl)<| .c (DInv.at hE (k := 2) rfl rfl rfl)<| .n _) rfl ?_
      refine AWP.vc (s' := ⟨[(0,.own 1 1 a0_o a0_n),(2,.sc (.int .i64 x_20.1)),(3,.sc (.int .i64 x_20.2.1))],[(1,⟨3,true,l1_27.flatMap (encI .i64)⟩)]⟩) (VC.sub (.c rfl<| .c rfl<| .c rfl<| .n _) (.c rfl<| .n _)) ?_
      obtain ⟨t2_28,ht2_28,h⟩ := letS h
      obtain ⟨t3_29,ht3_29,h⟩ := letS h
      refine AWP.region (.cons (.move (lt1 rfl) (.tmp rfl))<| .cons (.add (lt1 rfl) (.tmp rfl) (.const _ _ _))<| .cons (.move (lt1 rfl) (.tmp rfl))<| .cons (.sub (lt1 rfl) (.tmp rfl) (.const _ _ _))<| .cons (.assign (lt1 rfl) (.tmp rfl))<| .cons (.assign (lt1 rfl) (.tmp rfl))<| ARun.nil _ _ _) ?_
      exact endJ (t2_28,t3_29,l1_27) h (by subst ht2_28 ht3_29; exact VC.sub (.c rfl<| .c rfl<| .c rfl<| .n _) (.c rfl<| .n _))
    · have h := iteF hc h
      refine AWP.exit ?_
      exact endJ x_20.2.2 h (VC.sub (.n _) (.c rfl<| .n _))
theorem c70 {β1 : Bool} {β2 : Bool} {β3 : Bool} (n : Nat) (a0 : R24) (a1 : (List Int)) {r : ((List Int) × Bool)} (h : m70 n a0 a1 = some r) : Spec Try.prog 70 [] [.agg [.rd β1 a0.Points.length (a0.Points.flatMap encR45),.rd β2 a0.Before.length (a0.Before.flatMap encR93)],.rd β3 a1.length (a1.flatMap (encI .i64))] [] (.tup [.rd β3 r.1.length (r.1.flatMap (encI .i64)),.sc (.bool r.2)]) [] := by
  refine Spec.of (fn := Try.f70) Try.func70 Try.ntmps70 rfl rfl (le1 rfl) (fun w0 Zs Zb T0 ι0 => ?_)
  unfold m70 at h
  refine AWP.seq ?_
  refine AWP.region (.cons (.box (t := 1) (n := 2) (lt1 rfl) (nm rfl) (.tmp rfl) (by first | exact ⟨rfl,rfl⟩ | rfl) rfl)<| .cons (.assign (lt1 rfl) (.const _ _ _))<| .cons (.assign (lt1 rfl) (.const _ _ _))<| ARun.nil _ _ _) ?_
  refine AWP.vc (s' := ⟨[(1,.rd β3 a1.length (a1.flatMap (encI .i64))),(2,.ptr 1 0)],[(1,⟨32,false,[.rd β1 a0.Points.length (a0.Points.flatMap encR45),.rd β2 a0.Before.length (a0.Before.flatMap encR93)]⟩)]⟩) (VC.sub (.c rfl<| .c rfl<| .n _) (.c rfl<| .n _)) ?_
  refine AWP.seq ?_
  obtain ⟨y_1,hy_1,h⟩ := bindS h
  refine AWP.region (.cons (.loadPA (lt1 rfl) (.tmp rfl) agg32 rfl rfl rfl rfl)<| .cons (.move (lt1 rfl) (.tmp rfl))<| .cons (.call0 (bw := false) (lt1 rfl) (c68 (β1 := β1) (β2 := β2) (β3 := β3) n (R24.mk a0.Points a0.Before) a1 hy_1) (.cons (.tmp rfl) (.ren rfl) (.cons (.tmp rfl) (.ren rfl) (.nil))) rfl)<| .cons (.assign (lt1 rfl) (.tmp rfl))<| ARun.nil _ _ _) ?_
  refine AWP.vc (s' := ⟨[(1,.rd β3 a1.length (a1.flatMap (encI .i64))),(2,.ptr 1 0),(6,.sc (.int .i64 y_1))],[(1,⟨32,false,[.rd β1 a0.Points.length (a0.Points.flatMap encR45),.rd β2 a0.Before.length (a0.Before.flatMap encR93)]⟩)]⟩) (VC.sub (.c rfl<| .c rfl<| .c rfl<| .n _) (.c rfl<| .n _)) ?_
  refine AWP.seq ?_
  refine AWP.seq ?_
  refine AWP.region (.cons (.assign (lt1 rfl) (.const _ _ _))<| ARun.nil _ _ _) ?_
  refine AWP.vc (s' := ⟨[(1,.rd β3 a1.length (a1.flatMap (encI .i64))),(2,.ptr 1 0),(6,.sc (.int .i64 y_1)),(7,.sc (.int .i64 (1 : Int)))],[(1,⟨32,false,[.rd β1 a0.Points.length (a0.Points.flatMap encR45),.rd β2 a0.Before.length (a0.Before.flatMap encR93)]⟩)]⟩) (VC.sub (.c rfl<| .c rfl<| .c rfl<| .c rfl<| .n _) (.c rfl<| .n _)) ?_
  refine AWP.joinB' (S := fun p_63 : Unit => ⟨[(1,.rd β3 a1.length (a1.flatMap (encI .i64)))],[]⟩) h (fun p_63 h => ?_) (fun k_64 h => ?_)
  · refine AWP.seq ?_
    refine AWP.region (.cons (.move (lt1 rfl) (.tmp rfl))<| .cons (.assign (lt1 rfl) (.tmp rfl))<| .cons (.assign (lt1 rfl) (.const _ _ _))<| ARun.nil _ _ _) ?_
    refine AWP.ret ?_
    obtain rfl := Option.some.inj h
    refine retJ (Res.vc (s' := ⟨[(4,.rd β3 a1.length (a1.flatMap (encI .i64))),(5,.sc (.bool false))],[]⟩) (VC.sub (.c rfl<| .c rfl<| .n _) (.n _)) ?_)
    refine Res.drop (H := []) rfl ?_
    exact Res.of rfl (.cons (.tmp rfl) (.cons (.tmp rfl) (.nil))) rfl rfl
  · refine AWP.vc (s' := ⟨[(1,.rd β3 a1.length (a1.flatMap (encI .i64))),(2,.ptr 1 0),(6,.sc (.int .i64 y_1)),(7,.sc (.int .i64 (1 : Int)))],[(1,⟨32,false,[.rd β1 a0.Points.length (a0.Points.flatMap encR45),.rd β2 a0.Before.length (a0.Before.flatMap encR93)]⟩)]⟩) (VC.sub (.c rfl<| .c rfl<| .c rfl<| .c rfl<| .n _) (.c rfl<| .n _)) ?_
    refine AWP.loopM (S := fun x_32 : Int => ⟨[(1,.rd β3 a1.length (a1.flatMap (encI .i64))),(2,.ptr 1 0),(6,.sc (.int .i64 y_1)),(7,.sc (.int .i64 x_32))],[(1,⟨32,false,[.rd β1 a0.Points.length (a0.Points.flatMap encR45),.rd β2 a0.Before.length (a0.Before.flatMap encR93)]⟩)]⟩) (x := (1 : Int)) (fun nx_33 x_32 h => ?_) h
    unfold m70_L2 at h
    refine AWP.seq ?_
    refine AWP.seq ?_
    refine AWP.region (.cons (.move (lt1 rfl) (.tmp rfl))<| .cons (.move (lt1 rfl) (.tmp rfl))<| .cons (.lenRd (lt1 rfl) (.tmp rfl) Try.underlying28)<| .cons (.lss (lt1 rfl) (.tmp rfl) (.tmp rfl))<| ARun.nil _ _ _) ?_
    refine AWP.vc (s' := ⟨[(1,.rd β3 a1.length (a1.flatMap (encI .i64))),(2,.ptr 1 0),(6,.sc (.int .i64 y_1)),(7,.sc (.int .i64 x_32)),(16,.sc (.bool (decide (x_32 < (a1.length : Int)))))],[(1,⟨32,false,[.rd β1 a0.Points.length (a0.Points.flatMap encR45),.rd β2 a0.Before.length (a0.Before.flatMap encR93)]⟩)]⟩) (VC.sub (.c rfl<| .c rfl<| .c rfl<| .c rfl<| .c rfl<| .n _) (.c rfl<| .n _)) ?_
    refine AWP.cond (.tmp rfl) (fun hc => ?_) (fun hc => ?_)
    · have h := iteT hc h
      refine AWP.skip ?_
      refine AWP.seq ?_
      refine AWP.block ?_
      refine AWP.seq ?_
      obtain ⟨t8_34,ht8_34,h⟩ := letS h
      refine AWP.region (.cons (.move (lt1 rfl) (.tmp rfl))<| .cons (.add (lt1 rfl) (.tmp rfl) (.const _ _ _))<| .cons (.assign (lt1 rfl) (.tmp rfl))<| ARun.nil _ _ _) ?_
      refine AWP.vc (s' := ⟨[(1,.rd β3 a1.length (a1.flatMap (encI .i64))),(2,.ptr 1 0),(6,.sc (.int .i64 y_1)),(7,.sc (.int .i64 x_32)),(8,.sc (.int .i64 t8_34))],[(1,⟨32,false,[.rd β1 a0.Points.length (a0.Points.flatMap encR45),.rd β2 a0.Before.length (a0.Before.flatMap encR93)]⟩)]⟩) (by subst ht8_34; exact VC.sub (.c rfl<| .c rfl<| .c rfl<| .c rfl<| .c rfl<| .n _) (.c rfl<| .n _)) ?_
      refine AWP.joinB' (S := fun p_60 : Unit => ⟨[(1,.rd β3 a1.length (a1.flatMap (encI .i64))),(2,.ptr 1 0),(6,.sc (.int .i64 y_1)),(7,.sc (.int .i64 x_32))],[(1,⟨32,false,[.rd β1 a0.Points.length (a0.Points.flatMap encR45),.rd β2 a0.Before.length (a0.Before.flatMap encR93)]⟩)]⟩) h (fun p_60 h => ?_) (fun k_61 h => ?_)
      · obtain ⟨t7_62,ht7_62,h⟩ := letS h
        refine AWP.region (.cons (.move (lt1 rfl) (.tmp rfl))<| .cons (.add (lt1 rfl) (.tmp rfl) (.const _ _ _))<| .cons (.assign (lt1 rfl) (.tmp rfl))<| ARun.nil _ _ _) ?_
        exact endJ t7_62 h (by subst ht7_62; exact VC.sub (.c rfl<| .c rfl<| .c rfl<| .c rfl<| .n _) (.c rfl<| .n _))
      · refine AWP.vc (s' := ⟨[(1,.rd β3 a1.length (a1.flatMap (encI .i64))),(2,.ptr 1 0),(6,.sc (.int .i64 y_1)),(7,.sc (.int .i64 x_32)),(8,.sc (.int .i64 t8_34))],[(1,⟨32,false,[.rd β1 a0.Points.length (a0.Points.flatMap encR45),.rd β2 a0.Before.length (a0.Before.flatMap encR93)]⟩)]⟩) (VC.sub (.c rfl<| .c rfl<| .c rfl<| .c rfl<| .c rfl<| .n _) (.c rfl<| .n _)) ?_
        refine AWP.loopM (S := fun x_51 : Int => ⟨[(1,.rd β3 a1.length (a1.flatMap (encI .i64))),(2,.ptr 1 0),(6,.sc (.int .i64 y_1)),(7,.sc (.int .i64 x_32)),(8,.sc (.int .i64 x_51))],[(1,⟨32,false,[.rd β1 a0.Points.length (a0.Points.flatMap encR45),.rd β2 a0.Before.length (a0.Before.flatMap encR93)]⟩)]⟩) (x := t8_34) (fun nx_52 x_51 h => ?_) h
        unfold m70_L3 at h
        refine AWP.seq ?_
        refine AWP.seq ?_
        refine AWP.region (.cons (.move (lt1 rfl) (.tmp rfl))<| .cons (.move (lt1 rfl) (.tmp rfl))<| .cons (.lenRd (lt1 rfl) (.tmp rfl) Try.underlying28)<| .cons (.lss (lt1 rfl) (.tmp rfl) (.tmp rfl))<| ARun.nil _ _ _) ?_
        refine AWP.vc (s' := ⟨[(1,.rd β3 a1.length (a1.flatMap (encI .i64))),(2,.ptr 1 0),(6,.sc (.int .i64 y_1)),(7,.sc (.int .i64 x_32)),(8,.sc (.int .i64 x_51)),(24,.sc (.bool (decide (x_51 < (a1.length : Int)))))],[(1,⟨32,false,[.rd β1 a0.Points.length (a0.Points.flatMap encR45),.rd β2 a0.Before.length (a0.Before.flatMap encR93)]⟩)]⟩) (VC.sub (.c rfl<| .c rfl<| .c rfl<| .c rfl<| .c rfl<| .c rfl<| .n _) (.c rfl<| .n _)) ?_
        refine AWP.cond (.tmp rfl) (fun hc => ?_) (fun hc => ?_)
        · have h := iteT hc h
          refine AWP.skip ?_
          refine AWP.seq ?_
          refine AWP.block ?_
          refine AWP.seq ?_
          obtain ⟨y_53,hy_53,h⟩ := bindS h
          refine AWP.region (.cons (.move (lt1 rfl) (.tmp rfl))<| .cons (.call (σ := fun _ => 2) (bw := false) (lt1 rfl) (c63o (β1 := β3) n a1 hy_53) (.cons (.tmp rfl) (.ren rfl) (.nil)) (CallOk.mk' (.n) rfl))<| .cons (.assign (lt1 rfl) (.tmp rfl))<| ARun.nil _ _ _) ?_
          refine AWP.vc (s' := ⟨[(1,.rd β3 a1.length (a1.flatMap (encI .i64))),(2,.ptr 1 0),(6,.sc (.int .i64 y_1)),(7,.sc (.int .i64 x_32)),(8,.sc (.int .i64 x_51)),(9,.own 2 1 0 y_53.length)],[(2,⟨3,true,y_53.flatMap (encI .i64)⟩),(1,⟨32,false,[.rd β1 a0.Points.length (a0.Points.flatMap encR45),.rd β2 a0.Before.length (a0.Before.flatMap encR93)]⟩)]⟩) (VC.sub (.c rfl<| .c rfl<| .c rfl<| .c rfl<| .c rfl<| .c rfl<| .n _) (.c rfl<| .c rfl<| .n _)) ?_
          refine AWP.seq ?_
          obtain ⟨s_54,hs_54,h⟩ := bindS h
          obtain ⟨y_55,hy_55,h⟩ := bindS h
          obtain ⟨ha_56,h⟩ := asrtS h
          refine AWP.region (.cons (.move (lt1 rfl) (.tmp rfl))<| .cons (.move (lt1 rfl) (.tmp rfl))<| .cons (.move (lt1 rfl) (.tmp rfl))<| .cons (.add (lt1 rfl) (.tmp rfl) (.const _ _ _))<| .cons (.slBoth (lt1 rfl) (.tmp rfl) Try.underlying28 sz3 rfl (.some (.tmp rfl)) (.some (.tmp rfl)) hs_54)<| .cons (.call (σ := fun _ => 2) (bw := false) (lt1 rfl) (c95 n y_53 (((IntKind.wrap .i64 (x_51 + (1 : Int)))).toNat - (x_32).toNat) (0 + (x_32).toNat * 1) hy_55) (.cons (.tmp rfl) (.ren rfl) (.nil)) (CallOk.mk' (.c rfl (.n)) rfl))<| ARun.nil _ _ _) ?_
          refine AWP.vc (s' := ⟨[(1,.rd β3 a1.length (a1.flatMap (encI .i64))),(2,.ptr 1 0),(6,.sc (.int .i64 y_1)),(7,.sc (.int .i64 x_32)),(8,.sc (.int .i64 x_51)),(9,.own 2 1 0 y_55.length)],[(2,⟨3,true,y_55.flatMap (encI .i64)⟩),(1,⟨32,false,[.rd β1 a0.Points.length (a0.Points.flatMap encR45),.rd β2 a0.Before.length (a0.Before.flatMap encR93)]⟩)]⟩) (VC.sub (.c rfl<| .c rfl<| .c rfl<| .c rfl<| .c rfl<| .c (lenC (Eq.symm (Eq.symm ha_56)) rfl)<| .n _) (.c rfl<| .c rfl<| .n _)) ?_
          refine AWP.seq ?_
          obtain ⟨y_57,hy_57,h⟩ := bindS h
          obtain ⟨y_58,hy_58,h⟩ := bindS h
          refine AWP.region (.cons (.loadPA (lt1 rfl) (.tmp rfl) agg32 rfl rfl rfl rfl)<| .cons (.move (lt1 rfl) (.tmp rfl))<| .cons (.call0 (bw := true) (lt1 rfl) (c68 (β1 := β1) (β2 := β2) (β3 := true) n (R24.mk a0.Points a0.Before) y_55 hy_57) (.cons (.tmp rfl) (.ren rfl) (.cons (.tmp rfl) (.lendRow rfl rfl (encI_len .i64) rfl) (.nil))) rfl)<| .cons (.move (lt1 rfl) (.tmp rfl))<| .cons (.lss (lt1 rfl) (.tmp rfl) (.tmp rfl))<| .cons (.move (lt1 rfl) (.tmp rfl))<| .guard (j := 5) (dj := 40) rfl (lt1 rfl) rfl (lt1 rfl) (fun hg => .loadPA (lt1 rfl) (.tmp rfl) agg32 rfl rfl rfl rfl)<| .guard (j := 5) (dj := 40) rfl (lt1 rfl) rfl (lt1 rfl) (fun hg => .move (lt1 rfl) (.tmp rfl))<| .guard (j := 5) (dj := 40) rfl (lt1 rfl) rfl (lt1 rfl) (fun hg => .call0 (bw := true) (lt1 rfl) (c67 (β1 := β1) (β2 := β2) (β3 := true) n (R24.mk a0.Points a0.Before) y_55 (gdB hy_58 hg)) (.cons (.gd hg (.tmp rfl)) (.ren rfl) (.cons (.gd hg (.tmp rfl)) (.lendRow rfl rfl (encI_len .i64) rfl) (.nil))) rfl)<| .cons (.pickAnd (lt1 rfl) (.tmp rfl) (.tmp rfl) (.const _ _ _))<| ARun.nil _ _ _) ?_
          refine AWP.vc (s' := ⟨[(1,.rd β3 a1.length (a1.flatMap (encI .i64))),(2,.ptr 1 0),(6,.sc (.int .i64 y_1)),(7,.sc (.int .i64 x_32)),(8,.sc (.int .i64 x_51)),(9,.own 2 1 0 y_55.length),(44,.sc (.bool ((decide (y_57 < y_1)) && y_58)))],[(2,⟨3,true,y_55.flatMap (encI .i64)⟩),(1,⟨32,false,[.rd β1 a0.Points.length (a0.Points.flatMap encR45),.rd β2 a0.Before.length (a0.Before.flatMap encR93)]⟩)]⟩) (VC.sub (.c rfl<| .c rfl<| .c rfl<| .c rfl<| .c rfl<| .c rfl<| .c rfl<| .n _) (.c rfl<| .c rfl<| .n _)) ?_
          refine AWP.cond (.tmp rfl) (fun hc => ?_) (fun hc => ?_)
          · have h := iteT hc h
            refine AWP.seq ?_
            refine AWP.region (.cons (.move (lt1 rfl) (.tmp rfl))<| .cons (.assign (lt1 rfl) (.tmp rfl))<| .cons (.assign (lt1 rfl) (.const _ _ _))<| ARun.nil _ _ _) ?_
            refine AWP.ret ?_
            obtain rfl := Option.some.inj h
            refine retJ (Res.vc (s' := ⟨[(4,.rd β3 y_55.length (y_55.flatMap (encI .i64))),(5,.sc (.bool true))],[]⟩) (VC.trans (VC.frz (d := 4) (t := 2) rfl rfl (encI_len .i64)) (VC.trans (VC.flagUp (d := 4) β3 rfl) (VC.sub (.c rfl<| .c rfl<| .n _) (.n _)))) ?_)
            refine Res.drop (H := []) rfl ?_
            exact Res.of rfl (.cons (.tmp rfl) (.cons (.tmp rfl) (.nil))) rfl rfl
          · have h := iteF hc h
            refine AWP.skip ?_
            obtain ⟨t8_59,ht8_59,h⟩ := letS h
            refine AWP.region (.cons (.move (lt1 rfl) (.tmp rfl))<| .cons (.add (lt1 rfl) (.tmp rfl) (.const _ _ _))<| .cons (.assign (lt1 rfl) (.tmp rfl))<| ARun.nil _ _ _) ?_
            exact endJ t8_59 h (by subst ht8_59; exact VC.sub (.c rfl<| .c rfl<| .c rfl<| .c rfl<| .c rfl<| .n _) (.c rfl<| .n _))
        · have h := iteF hc h
          refine AWP.exit ?_
          exact endJ () h (VC.sub (.c rfl<| .c rfl<| .c rfl<| .c rfl<| .n _) (.c rfl<| .n _))
    · have h := iteF hc h
      refine AWP.exit ?_
      exact endJ () h (VC.sub (.c rfl<| .n _) (.n _))
theorem c33 {β1 : Bool} {β2 : Bool} {β3 : Bool} (n : Nat) (a0 : R24) (a1 : (List Int)) {r : ((List Int) × Int)} (h : m33 n a0 a1 = some r) : Spec Try.prog 33 [] [.agg [.rd β1 a0.Points.length (a0.Points.flatMap encR45),.rd β2 a0.Before.length (a0.Before.flatMap encR93)],.rd β3 a1.length (a1.flatMap (encI .i64))] [] (.tup [.rd false r.1.length (r.1.flatMap (encI .i64)),.sc (.int .i64 r.2)]) [] := by
  refine Spec.of (fn := Try.f33) Try.func33 Try.ntmps33 rfl rfl (le1 rfl) (fun w0 Zs Zb T0 ι0 => ?_)
  unfold m33 at h
  refine AWP.seq ?_
  refine AWP.region (.cons (.box (t := 1) (n := 2) (lt1 rfl) (nm rfl) (.tmp rfl) (by first | exact ⟨rfl,rfl⟩ | rfl) rfl)<| .cons (.assign (lt1 rfl) (.const _ _ _))<| .cons (.assign (lt1 rfl) (.const _ _ _))<| ARun.nil _ _ _) ?_
  refine AWP.vc (s' := ⟨[(1,.rd β3 a1.length (a1.flatMap (encI .i64))),(2,.ptr 1 0)],[(1,⟨32,false,[.rd β1 a0.Points.length (a0.Points.flatMap encR45),.rd β2 a0.Before.length (a0.Before.flatMap encR93)]⟩)]⟩) (VC.sub (.c rfl<| .c rfl<| .n _) (.c rfl<| .n _)) ?_
  refine AWP.seq ?_
  refine AWP.block ?_
  refine AWP.seq ?_
  obtain ⟨y_1,hy_1,h⟩ := bindS h
  refine AWP.region (.cons (.loadPA (lt1 rfl) (.tmp rfl) agg32 rfl rfl rfl rfl)<| .cons (.call0 (bw := false) (lt1 rfl) (c22 (β1 := β1) (β2 := β2) n (R24.mk a0.Points a0.Before) hy_1) (.cons (.tmp rfl) (.ren rfl) (.nil)) rfl)<| .cons (.not (lt1 rfl) (.tmp rfl))<| .cons (.assign (lt1 rfl) (.tmp rfl))<| ARun.nil _ _ _) ?_
  refine AWP.vc (s' := ⟨[(1,.rd β3 a1.length (a1.flatMap (encI .i64))),(2,.ptr 1 0),(8,.sc (.bool (!y_1)))],[(1,⟨32,false,[.rd β1 a0.Points.length (a0.Points.flatMap encR45),.rd β2 a0.Before.length (a0.Before.flatMap encR93)]⟩)]⟩) (VC.sub (.c rfl<| .c rfl<| .c rfl<| .n _) (.c rfl<| .n _)) ?_
  refine AWP.cond (.tmp rfl) (fun hc => ?_) (fun hc => ?_)
  · have h := iteT hc h
    refine AWP.seq ?_
    refine AWP.region (.cons (.assign (lt1 rfl) (.const _ _ _))<| .cons (.assign (lt1 rfl) (.const _ _ _))<| ARun.nil _ _ _) ?_
    refine AWP.ret ?_
    obtain rfl := Option.some.inj h
    refine retJ (Res.vc (s' := ⟨[(4,.rd false ([] : List Int).length (([] : List Int).flatMap (encI .i64))),(5,.sc (.int .i64 (1 : Int)))],[]⟩) (VC.trans (VC.nilRd (d := 4) false rfl) (VC.sub (.c rfl<| .c rfl<| .n _) (.n _))) ?_)
    refine Res.drop (H := []) rfl ?_
    exact Res.of rfl (.cons (.tmp rfl) (.cons (.tmp rfl) (.nil))) rfl rfl
  · have h := iteF hc h
    refine AWP.seq ?_
    obtain ⟨y_2,hy_2,h⟩ := bindS h
    refine AWP.region (.cons (.loadPA (lt1 rfl) (.tmp rfl) agg32 rfl rfl rfl rfl)<| .cons (.move (lt1 rfl) (.tmp rfl))<| .cons (.call0 (bw := false) (lt1 rfl) (c67 (β1 := β1) (β2 := β2) (β3 := β3) n (R24.mk a0.Points a0.Before) a1 hy_2) (.cons (.tmp rfl) (.ren rfl) (.cons (.tmp rfl) (.ren rfl) (.nil))) rfl)<| .cons (.not (lt1 rfl) (.tmp rfl))<| .cons (.assign (lt1 rfl) (.tmp rfl))<| ARun.nil _ _ _) ?_
    refine AWP.vc (s' := ⟨[(1,.rd β3 a1.length (a1.flatMap (encI .i64))),(2,.ptr 1 0),(12,.sc (.bool (!y_2)))],[(1,⟨32,false,[.rd β1 a0.Points.length (a0.Points.flatMap encR45),.rd β2 a0.Before.length (a0.Before.flatMap encR93)]⟩)]⟩) (VC.sub (.c rfl<| .c rfl<| .c rfl<| .n _) (.c rfl<| .n _)) ?_
    refine AWP.cond (.tmp rfl) (fun hc => ?_) (fun hc => ?_)
    · have h := iteT hc h
      refine AWP.seq ?_
      refine AWP.region (.cons (.assign (lt1 rfl) (.const _ _ _))<| .cons (.assign (lt1 rfl) (.const _ _ _))<| ARun.nil _ _ _) ?_
      refine AWP.ret ?_
      obtain rfl := Option.some.inj h
      refine retJ (Res.vc (s' := ⟨[(4,.rd false ([] : List Int).length (([] : List Int).flatMap (encI .i64))),(5,.sc (.int .i64 (22 : Int)))],[]⟩) (VC.trans (VC.nilRd (d := 4) false rfl) (VC.sub (.c rfl<| .c rfl<| .n _) (.n _))) ?_)
      refine Res.drop (H := []) rfl ?_
      exact Res.of rfl (.cons (.tmp rfl) (.cons (.tmp rfl) (.nil))) rfl rfl
    · have h := iteF hc h
      refine AWP.skip ?_
      refine AWP.seq ?_
      obtain ⟨y_3,hy_3,h⟩ := bindS h
      refine AWP.region (.cons (.move (lt1 rfl) (.tmp rfl))<| .cons (.call0 (bw := false) (lt1 rfl) (c63 (β1 := β3) n a1 hy_3) (.cons (.tmp rfl) (.ren rfl) (.nil)) rfl)<| .cons (.assign (lt1 rfl) (.tmp rfl))<| ARun.nil _ _ _) ?_
      refine AWP.vc (s' := ⟨[(2,.ptr 1 0),(6,.rd false y_3.length (y_3.flatMap (encI .i64)))],[(1,⟨32,false,[.rd β1 a0.Points.length (a0.Points.flatMap encR45),.rd β2 a0.Before.length (a0.Before.flatMap encR93)]⟩)]⟩) (VC.sub (.c rfl<| .c rfl<| .n _) (.c rfl<| .n _)) ?_
      refine AWP.seq ?_
      refine AWP.seq ?_
      refine AWP.region (.cons (.assign (lt1 rfl) (.const _ _ _))<| ARun.nil _ _ _) ?_
      refine AWP.vc (s' := ⟨[(2,.ptr 1 0),(6,.rd false y_3.length (y_3.flatMap (encI .i64))),(7,.sc (.bool true))],[(1,⟨32,false,[.rd β1 a0.Points.length (a0.Points.flatMap encR45),.rd β2 a0.Before.length (a0.Before.flatMap encR93)]⟩)]⟩) (VC.sub (.c rfl<| .c rfl<| .c rfl<| .n _) (.c rfl<| .n _)) ?_
      refine AWP.joinB' (S := fun p_11 : (List Int) => ⟨[(6,.rd false p_11.length (p_11.flatMap (encI .i64)))],[]⟩) h (fun p_11 h => ?_) (fun k_12 h => ?_)
      · refine AWP.seq ?_
        refine AWP.region (.cons (.move (lt1 rfl) (.tmp rfl))<| .cons (.assign (lt1 rfl) (.tmp rfl))<| .cons (.assign (lt1 rfl) (.const _ _ _))<| ARun.nil _ _ _) ?_
        refine AWP.ret ?_
        obtain rfl := Option.some.inj h
        refine retJ (Res.vc (s' := ⟨[(4,.rd false p_11.length (p_11.flatMap (encI .i64))),(5,.sc (.int .i64 (0 : Int)))],[]⟩) (VC.sub (.c rfl<| .c rfl<| .n _) (.n _)) ?_)
        refine Res.drop (H := []) rfl ?_
        exact Res.of rfl (.cons (.tmp rfl) (.cons (.tmp rfl) (.nil))) rfl rfl
      · refine AWP.vc (s' := ⟨[(2,.ptr 1 0),(6,.rd false y_3.length (y_3.flatMap (encI .i64))),(7,.sc (.bool true))],[(1,⟨32,false,[.rd β1 a0.Points.length (a0.Points.flatMap encR45),.rd β2 a0.Before.length (a0.Before.flatMap encR93)]⟩)]⟩) (VC.sub (.c rfl<| .c rfl<| .c rfl<| .n _) (.c rfl<| .n _)) ?_
        refine AWP.loopM (S := fun x_8 : (List Int) × Bool => ⟨[(2,.ptr 1 0),(6,.rd false x_8.1.length (x_8.1.flatMap (encI .i64))),(7,.sc (.bool x_8.2))],[(1,⟨32,false,[.rd β1 a0.Points.length (a0.Points.flatMap encR45),.rd β2 a0.Before.length (a0.Before.flatMap encR93)]⟩)]⟩) (x := (y_3,true)) (fun nx_9 x_8 h => ?_) h
        unfold m33_L1 at h
        refine AWP.seq ?_
        refine AWP.seq ?_
        refine AWP.region (.cons (.move (lt1 rfl) (.tmp rfl))<| ARun.nil _ _ _) ?_
        refine AWP.vc (s' := ⟨[(2,.ptr 1 0),(6,.rd false x_8.1.length (x_8.1.flatMap (encI .i64))),(19,.sc (.bool x_8.2))],[(1,⟨32,false,[.rd β1 a0.Points.length (a0.Points.flatMap encR45),.rd β2 a0.Before.length (a0.Before.flatMap encR93)]⟩)]⟩) (VC.sub (.c rfl<| .c rfl<| .c rfl<| .n _) (.c rfl<| .n _)) ?_
        refine AWP.cond (.tmp rfl) (fun hc => ?_) (fun hc => ?_)
        · have h := iteT hc h
          refine AWP.skip ?_
          refine AWP.block ?_
          obtain ⟨y_10,hy_10,h⟩ := bindS h
          refine AWP.region (.cons (.loadPA (lt1 rfl) (.tmp rfl) agg32 rfl rfl rfl rfl)<| .cons (.move (lt1 rfl) (.tmp rfl))<| .cons (.call0 (bw := false) (lt1 rfl) (c70 (β1 := β1) (β2 := β2) (β3 := false) n (R24.mk a0.Points a0.Before) x_8.1 hy_10) (.cons (.tmp rfl) (.ren rfl) (.cons (.tmp rfl) (.ren rfl) (.nil))) rfl)<| .cons (.move (lt1 rfl) (.tmp rfl))<| .cons (.extract (lt1 rfl) (.tmp rfl) rfl)<| .cons (.extract (lt1 rfl) (.tmp rfl) rfl)<| .cons (.assign (lt1 rfl) (.tmp rfl))<| .cons (.assign (lt1 rfl) (.tmp rfl))<| ARun.nil _ _ _) ?_
          exact endJ (y_10.1,y_10.2) h (VC.sub (.c rfl<| .c rfl<| .c rfl<| .n _) (.c rfl<| .n _))
        · have h := iteF hc h
          refine AWP.exit ?_
          exact endJ x_8.1 h (VC.sub (.c rfl<| .n _) (.n _))
end Go.AB
