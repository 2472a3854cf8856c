import Derived.Test.YtiginjokbkemcaaProg
import Derived.Test.YtiginjokbkemcaaF7a
import Derived.KernelRfl
set_option linter.unusedVariables false
set_option maxRecDepth 20000
namespace Go.AB
open Go Go.Proofs
theorem c51 {β1 : Bool} {β2 : Bool} {β3 : Bool} (n : Nat) (a0 : R24) (a1 : (List Int)) (a2 : Int) (a3 : Int) {r : Int} (h : m51 n a0 a1 a2 a3 = some r) : Spec Try.prog 51 [] [.agg (pW β1 β2 a0),rW β3 a1 eW,iW a2,iW a3] [] (iW r) [] := by
 refine Spec.of (fn := Try.f51) Try.func51 Try.ntmps51 rfl rfl (le1 rfl) (fun w0 Zs Zb T0 ι0 => ?_)
 unfold m51 at h
 refine AWP.seq ?_
 refine AWP.rg (.cons (.box (t := 1) (n := 2) (l1 rfl) (nm rfl) (.t rfl) (by first | exact ⟨rfl,rfl⟩ | rfl) rfl)<| .cons (.assign (l1 rfl) (.const _ _ _))<| ARun.nil _ _ _) ?_
 refine AWP.vc (s' := ⟨[(1,rW β3 a1 eW),(2,iW a2),(3,iW a3),(4,.ptr 1 0)],[(1,⟨25,false,(pW β1 β2 a0)⟩)]⟩) (VC.sub (.of rfl) (.of rfl)) ?_
 refine AWP.seq ?_
 obtain ⟨y_1,hy_1,h⟩ := bindS h
 obtain ⟨y_2,hy_2,h⟩ := bindS h
 obtain ⟨y_3,hy_3,h⟩ := bindS h
 obtain ⟨y_4,hy_4,h⟩ := bindS h
 obtain ⟨y_5,hy_5,h⟩ := bindS h
 obtain ⟨t8_6,ht8_6,h⟩ := letS h
 refine AWP.draw (s' := ⟨[(8,iW (IntKind.wrap .i64 ((IntKind.wrap .i64 (y_3 + y_4)) + y_5)))],[(1,⟨25,false,(pW β1 β2 a0)⟩)]⟩) mixed [⟨1,rW β3 a1 eW,none,[]⟩,⟨2,iW a2,none,[]⟩,⟨3,iW a3,none,[]⟩,⟨4,.ptr 1 0,none,[]⟩,⟨9,.ptr 1 (0 + 0),some 0,[]⟩,⟨10,rW β1 a0.Pq e45,some 1,[]⟩,⟨11,iW a2,some 2,[]⟩,⟨12,.rptr β1 [iW y_1.X,iW y_1.Y],some 3,[]⟩,⟨13,.agg [iW y_1.X,iW y_1.Y],some 4,[]⟩,⟨14,.ptr 1 (0 + 0),some 5,[]⟩,⟨15,rW β1 a0.Pq e45,some 6,[]⟩,⟨16,iW a3,some 7,[]⟩,⟨17,.rptr β1 [iW y_2.X,iW y_2.Y],some 8,[]⟩,⟨18,.agg [iW y_2.X,iW y_2.Y],some 9,[]⟩,⟨19,iW y_3,some 10,[]⟩,⟨20,rW β3 a1 eW,some 11,[]⟩,⟨21,iW a2,some 12,[]⟩,⟨22,.rptr β3 [iW y_4],some 13,[]⟩,⟨23,iW y_4,some 14,[]⟩,⟨24,iW (IntKind.wrap .i64 (y_3 + y_4)),some 15,[]⟩,⟨25,rW β3 a1 eW,some 16,[]⟩,⟨26,iW a3,some 17,[]⟩,⟨27,.rptr β3 [iW y_5],some 18,[]⟩,⟨28,iW y_5,some 19,[]⟩,⟨29,iW (IntKind.wrap .i64 ((IntKind.wrap .i64 (y_3 + y_4)) + y_5)),some 20,[]⟩,⟨8,iW (IntKind.wrap .i64 ((IntKind.wrap .i64 (y_3 + y_4)) + y_5)),some 21,[]⟩] [⟨[3],0,0,some (9,.ptr 1 (0 + 0)),[]⟩,⟨[4],0,0,some (10,rW β1 a0.Pq e45),[]⟩,⟨[1],0,0,some (11,iW a2),[]⟩,⟨[5,6],0,0,some (12,.rptr β1 [iW y_1.X,iW y_1.Y]),[]⟩,⟨[7],0,0,some (13,.agg [iW y_1.X,iW y_1.Y]),[]⟩,⟨[3],0,0,some (14,.ptr 1 (0 + 0)),[]⟩,⟨[9],0,0,some (15,rW β1 a0.Pq e45),[]⟩,⟨[2],0,0,some (16,iW a3),[]⟩,⟨[10,11],0,0,some (17,.rptr β1 [iW y_2.X,iW y_2.Y]),[]⟩,⟨[12],0,0,some (18,.agg [iW y_2.X,iW y_2.Y]),[]⟩,⟨[8,13],0,0,some (19,iW y_3),[]⟩,⟨[0],0,0,some (20,rW β3 a1 eW),[]⟩,⟨[1],0,0,some (21,iW a2),[]⟩,⟨[15,16],0,0,some (22,.rptr β3 [iW y_4]),[]⟩,⟨[17],0,0,some (23,iW y_4),[]⟩,⟨[14,18],0,0,some (24,iW (IntKind.wrap .i64 (y_3 + y_4))),[]⟩,⟨[0],0,0,some (25,rW β3 a1 eW),[]⟩,⟨[2],0,0,some (26,iW a3),[]⟩,⟨[20,21],0,0,some (27,.rptr β3 [iW y_5]),[]⟩,⟨[22],0,0,some (28,iW y_5),[]⟩,⟨[19,23],0,0,some (29,iW (IntKind.wrap .i64 ((IntKind.wrap .i64 (y_3 + y_4)) + y_5))),[]⟩,⟨[24],0,0,some (8,iW (IntKind.wrap .i64 ((IntKind.wrap .i64 (y_3 + y_4)) + y_5))),[]⟩] [] [[(1,⟨25,false,(pW β1 β2 a0)⟩)]] [[],[0],[],[0,1,2],[0,1,2,3],[],[5],[],[5,6,7],[5,6,7,8],[0,1,2,3,4,5,6,7,8,9],[],[],[11,12],[11,12,13],[0,1,2,3,4,5,6,7,8,9,10,11,12,13,14],[],[],[16,17],[16,17,18],[0,1,2,3,4,5,6,7,8,9,10,11,12,13,14,15,16,17,18,19],[0,1,2,3,4,5,6,7,8,9,10,11,12,13,14,15,16,17,18,19,20]] (by kernel_rfl) (by kernel_rfl) (BornL.ok (.o<| .o<| .o<| .o<| .b rfl rfl<| .b rfl rfl<| .b rfl rfl<| .b rfl rfl<| .b rfl rfl<| .b rfl rfl<| .b rfl rfl<| .b rfl rfl<| .b rfl rfl<| .b rfl rfl<| .b rfl rfl<| .b rfl rfl<| .b rfl rfl<| .b rfl rfl<| .b rfl rfl<| .b rfl rfl<| .b rfl rfl<| .b rfl rfl<| .b rfl rfl<| .b rfl rfl<| .b rfl rfl<| .b rfl rfl<| .n)) (BaseL.ok (.o rfl<| .o rfl<| .o rfl<| .o rfl<| .b<| .b<| .b<| .b<| .b<| .b<| .b<| .b<| .b<| .b<| .b<| .b<| .b<| .b<| .b<| .b<| .b<| .b<| .b<| .b<| .b<| .b<| .n)) rfl (by decide) (allLt rfl) (.read rfl (.c (.put (fun E hE => .fieldP (l1 rfl) (.tmp (hE.at (k := 0) rfl)) fld25_0)) .n)<| .read rfl (.c (.put (fun E hE => .loadP (l1 rfl) (.tmp (hE.at (k := 0) rfl)) one22 rfl rfl rfl)) .n)<| .pure rfl (fun H => .put (fun E hE => .move (l1 rfl) (.tmp (hE.at (k := 0) rfl))))<| .pure rfl (fun H => .put (fun E hE => .indexRd (enc := e45) (l1 rfl) (.tmp (hE.at (k := 0) rfl)) (.tmp (hE.at (k := 1) rfl)) Try.underlying22 sz46 encR45_len rfl hy_1))<| .pure rfl (fun H => .put (fun E hE => .loadRA (out := [iW y_1.X,iW y_1.Y]) (l1 rfl) (.tmp (hE.at (k := 0) rfl)) agg46 (Nat.le_of_eq (Eq.symm (encR45_len _))) rfl))<| .read rfl (.c (.put (fun E hE => .fieldP (l1 rfl) (.tmp (hE.at (k := 0) rfl)) fld25_0)) .n)<| .read rfl (.c (.put (fun E hE => .loadP (l1 rfl) (.tmp (hE.at (k := 0) rfl)) one22 rfl rfl rfl)) .n)<| .pure rfl (fun H => .put (fun E hE => .move (l1 rfl) (.tmp (hE.at (k := 0) rfl))))<| .pure rfl (fun H => .put (fun E hE => .indexRd (enc := e45) (l1 rfl) (.tmp (hE.at (k := 0) rfl)) (.tmp (hE.at (k := 1) rfl)) Try.underlying22 sz46 encR45_len rfl hy_2))<| .pure rfl (fun H => .put (fun E hE => .loadRA (out := [iW y_2.X,iW y_2.Y]) (l1 rfl) (.tmp (hE.at (k := 0) rfl)) agg46 (Nat.le_of_eq (Eq.symm (encR45_len _))) rfl))<| .pure rfl (fun H => .put (fun E hE => .call0 (bw := false) (l1 rfl) (c36 n (R45.mk y_1.X y_1.Y) (R45.mk y_2.X y_2.Y) hy_3) (.cons (.tmp (hE.at (k := 0) rfl)) (.ren rfl) (.cons (.tmp (hE.at (k := 1) rfl)) (.ren rfl) (.nil))) rfl))<| .pure rfl (fun H => .put (fun E hE => .move (l1 rfl) (.tmp (hE.at (k := 0) rfl))))<| .pure rfl (fun H => .put (fun E hE => .move (l1 rfl) (.tmp (hE.at (k := 0) rfl))))<| .pure rfl (fun H => .put (fun E hE => .indexRd (enc := eW) (l1 rfl) (.tmp (hE.at (k := 0) rfl)) (.tmp (hE.at (k := 1) rfl)) Try.underlying28 sz3 (encI_len .i64) rfl hy_4))<| .pure rfl (fun H => .put (fun E hE => .loadR (v := iW y_4) (l1 rfl) (.tmp (hE.at (k := 0) rfl)) one3 rfl))<| .pure rfl (fun H => .put (fun E hE => .add (l1 rfl) (.tmp (hE.at (k := 0) rfl)) (.tmp (hE.at (k := 1) rfl))))<| .pure rfl (fun H => .put (fun E hE => .move (l1 rfl) (.tmp (hE.at (k := 0) rfl))))<| .pure rfl (fun H => .put (fun E hE => .move (l1 rfl) (.tmp (hE.at (k := 0) rfl))))<| .pure rfl (fun H => .put (fun E hE => .indexRd (enc := eW) (l1 rfl) (.tmp (hE.at (k := 0) rfl)) (.tmp (hE.at (k := 1) rfl)) Try.underlying28 sz3 (encI_len .i64) rfl hy_5))<| .pure rfl (fun H => .put (fun E hE => .loadR (v := iW y_5) (l1 rfl) (.tmp (hE.at (k := 0) rfl)) one3 rfl))<| .pure rfl (fun H => .put (fun E hE => .add (l1 rfl) (.tmp (hE.at (k := 0) rfl)) (.tmp (hE.at (k := 1) rfl))))<| .pure rfl (fun H => .put (fun E hE => .assign (l1 rfl) (.tmp (hE.at (k := 0) rfl))))<| .nil _) (fun E hE => .c (DInv.at hE (k := 25) rfl rfl rfl)<| .n _) rfl ?_
 refine AWP.ret ?_
 obtain rfl := Option.some.inj h
 refine retJ (Res.vc (s' := ⟨[(8,iW t8_6)],[]⟩) (by subst ht8_6; exact VC.sub (.of rfl) (.n _)) ?_)
 refine Res.drop (H := []) rfl ?_
 exact Res.of rfl (.cons (.tmp rfl) (.nil)) rfl rfl
theorem c52 {β1 : Bool} {β2 : Bool} {β3 : Bool} {β4 : Bool} (n : Nat) (a0 : R24) (a1 : (List Int)) (a2 : (List Int)) {r : Int} (h : m52 n a0 a1 a2 = some r) : Spec Try.prog 52 [] [.agg (pW β1 β2 a0),rW β3 a1 eW,rW β4 a2 eW] [] (iW r) [] := by
 refine Spec.of (fn := Try.f52) Try.func52 Try.ntmps52 rfl rfl (le1 rfl) (fun w0 Zs Zb T0 ι0 => ?_)
 unfold m52 at h
 refine AWP.seq ?_
 refine AWP.rg (.cons (.box (t := 1) (n := 2) (l1 rfl) (nm rfl) (.t rfl) (by first | exact ⟨rfl,rfl⟩ | rfl) rfl)<| .cons (.assign (l1 rfl) (.const _ _ _))<| ARun.nil _ _ _) ?_
 refine AWP.vc (s' := ⟨[(1,rW β3 a1 eW),(2,rW β4 a2 eW),(3,.ptr 1 0)],[(1,⟨25,false,(pW β1 β2 a0)⟩)]⟩) (VC.sub (.of rfl) (.of rfl)) ?_
 refine AWP.seq ?_
 refine AWP.rg (.cons (.buildSlice (t := 2) (out := ([] : List Int).flatMap eW) (l1 rfl) (nm rfl) (.nil) Try.underlying28 zero3 el3 (by decide) (by decide) rfl (still_all (encI_still .i64) _))<| .cons (.assign (l1 rfl) (.t rfl))<| ARun.nil _ _ _) ?_
 refine AWP.vc (s' := ⟨[(1,rW β3 a1 eW),(2,rW β4 a2 eW),(3,.ptr 1 0),(7,.own 2 1 0 ([] : List Int).length)],[(2,⟨3,true,([] : List Int).flatMap eW⟩),(1,⟨25,false,(pW β1 β2 a0)⟩)]⟩) (VC.sub (.of rfl) (.of rfl)) ?_
 refine AWP.seq ?_
 refine AWP.seq ?_
 refine AWP.rg (.cons (.move (l1 rfl) (.t rfl))<| .cons (.lenRd (l1 rfl) (.t rfl) Try.underlying28)<| .cons (.gtr (l1 rfl) (.t rfl) (.const _ _ _))<| ARun.nil _ _ _) ?_
 refine AWP.vc (s' := ⟨[(1,rW β3 a1 eW),(2,rW β4 a2 eW),(3,.ptr 1 0),(7,.own 2 1 0 ([] : List Int).length),(18,bW (decide ((0 : Int) < (a2.length : Int))))],[(2,⟨3,true,([] : List Int).flatMap eW⟩),(1,⟨25,false,(pW β1 β2 a0)⟩)]⟩) (VC.sub (.of rfl) (.of rfl)) ?_
 refine AWP.join' (S := fun p_3 : (List Int) => ⟨[(1,rW β3 a1 eW),(2,rW β4 a2 eW),(3,.ptr 1 0),(7,.own 2 1 0 p_3.length)],[(1,⟨25,false,(pW β1 β2 a0)⟩),(2,⟨3,true,p_3.flatMap eW⟩)]⟩) h (fun p_3 h => ?_) (fun k_4 h => ?_)
 ·refine AWP.seq ?_
  refine AWP.rg (.cons (.assign (l1 rfl) (.const _ _ _))<| ARun.nil _ _ _) ?_
  refine AWP.vc (s' := ⟨[(1,rW β3 a1 eW),(2,rW β4 a2 eW),(3,.ptr 1 0),(7,.own 2 1 0 p_3.length),(8,iW (0 : Int))],[(1,⟨25,false,(pW β1 β2 a0)⟩),(2,⟨3,true,p_3.flatMap eW⟩)]⟩) (VC.sub (.of rfl) (.of rfl)) ?_
  refine AWP.seq ?_
  refine AWP.joinB' (S := fun p_333 : Int => ⟨[(8,iW p_333)],[]⟩) h (fun p_333 h => ?_) (fun k_334 h => ?_)
  ·refine AWP.seq ?_
   refine AWP.rg (.cons (.move (l1 rfl) (.t rfl))<| .cons (.assign (l1 rfl) (.t rfl))<| ARun.nil _ _ _) ?_
   refine AWP.ret ?_
   obtain rfl := Option.some.inj h
   refine retJ (Res.vc (s' := ⟨[(6,iW p_333)],[]⟩) (VC.sub (.of rfl) (.n _)) ?_)
   refine Res.drop (H := []) rfl ?_
   exact Res.of rfl (.cons (.tmp rfl) (.nil)) rfl rfl
  ·refine AWP.vc (s' := ⟨[(1,rW β3 a1 eW),(2,rW β4 a2 eW),(3,.ptr 1 0),(7,.own 2 1 0 p_3.length),(8,iW (0 : Int))],[(1,⟨25,false,(pW β1 β2 a0)⟩),(2,⟨3,true,p_3.flatMap eW⟩)]⟩) (VC.sub (.of rfl) (.of rfl)) ?_
   refine AWP.loopM (S := fun x_223 : Int × (List Int) => ⟨[(1,rW β3 a1 eW),(2,rW β4 a2 eW),(3,.ptr 1 0),(7,.own 2 1 0 x_223.2.length),(8,iW x_223.1)],[(1,⟨25,false,(pW β1 β2 a0)⟩),(2,⟨3,true,x_223.2.flatMap eW⟩)]⟩) (x := ((0 : Int),p_3)) (fun nx_224 x_223 h => ?_) h
   unfold m52_L9 at h
   refine AWP.seq ?_
   refine AWP.seq ?_
   refine AWP.rg (.cons (.move (l1 rfl) (.t rfl))<| .cons (.lenOwn (l1 rfl) (.t rfl) Try.underlying28)<| .cons (.move (l1 rfl) (.t rfl))<| .cons (.lenRd (l1 rfl) (.t rfl) Try.underlying28)<| .cons (.lss (l1 rfl) (.t rfl) (.t rfl))<| ARun.nil _ _ _) ?_
   refine AWP.vc (s' := ⟨[(1,rW β3 a1 eW),(2,rW β4 a2 eW),(3,.ptr 1 0),(7,.own 2 1 0 x_223.2.length),(8,iW x_223.1),(29,bW (decide ((x_223.2.length : Int) < (a2.length : Int))))],[(1,⟨25,false,(pW β1 β2 a0)⟩),(2,⟨3,true,x_223.2.flatMap eW⟩)]⟩) (VC.sub (.of rfl) (.of rfl)) ?_
   refine AWP.cond (.t rfl) (fun hc => ?_) (fun hc => ?_)
   ·have h := iteT hc h
    refine AWP.skip ?_
    refine AWP.block ?_
    refine AWP.seq ?_
    refine AWP.rg (.cons (.assign (l1 rfl) (.const _ _ _))<| .cons (.assign (l1 rfl) (.const _ _ _))<| .cons (.assign (l1 rfl) (.const _ _ _))<| ARun.nil _ _ _) ?_
    refine AWP.vc (s' := ⟨[(1,rW β3 a1 eW),(2,rW β4 a2 eW),(3,.ptr 1 0),(7,.own 2 1 0 x_223.2.length),(8,iW x_223.1),(9,iW (0 : Int)),(10,iW (0 : Int)),(11,bW true)],[(1,⟨25,false,(pW β1 β2 a0)⟩),(2,⟨3,true,x_223.2.flatMap eW⟩)]⟩) (VC.sub (.of rfl) (.of rfl)) ?_
    refine AWP.seq ?_
    refine AWP.seq ?_
    refine AWP.rg (.cons (.assign (l1 rfl) (.const _ _ _))<| ARun.nil _ _ _) ?_
    refine AWP.vc (s' := ⟨[(1,rW β3 a1 eW),(2,rW β4 a2 eW),(3,.ptr 1 0),(7,.own 2 1 0 x_223.2.length),(8,iW x_223.1),(9,iW (0 : Int)),(10,iW (0 : Int)),(11,bW true),(12,iW (0 : Int))],[(1,⟨25,false,(pW β1 β2 a0)⟩),(2,⟨3,true,x_223.2.flatMap eW⟩)]⟩) (VC.sub (.of rfl) (.of rfl)) ?_
    refine AWP.joinB' (S := fun p_329 : Int × Int => ⟨[(1,rW β3 a1 eW),(2,rW β4 a2 eW),(3,.ptr 1 0),(7,.own 2 1 0 x_223.2.length),(8,iW x_223.1),(9,iW p_329.1),(10,iW p_329.2)],[(1,⟨25,false,(pW β1 β2 a0)⟩),(2,⟨3,true,x_223.2.flatMap eW⟩)]⟩) h (fun p_329 h => ?_) (fun k_330 h => ?_)
    ·refine AWP.seq ?_
     obtain ⟨t8_331,ht8_331,h⟩ := letS h
     refine AWP.rg (.cons (.move (l1 rfl) (.t rfl))<| .cons (.move (l1 rfl) (.t rfl))<| .cons (.add (l1 rfl) (.t rfl) (.t rfl))<| .cons (.assign (l1 rfl) (.t rfl))<| ARun.nil _ _ _) ?_
     refine AWP.vc (s' := ⟨[(1,rW β3 a1 eW),(2,rW β4 a2 eW),(3,.ptr 1 0),(7,.own 2 1 0 x_223.2.length),(8,iW t8_331),(10,iW p_329.2)],[(1,⟨25,false,(pW β1 β2 a0)⟩),(2,⟨3,true,x_223.2.flatMap eW⟩)]⟩) (by subst ht8_331; exact VC.sub (.of rfl) (.of rfl)) ?_
     obtain ⟨l2_332,hl2_332,h⟩ := bindS h
     refine AWP.rg (.cons (.move (l1 rfl) (.t rfl))<| .cons (.move (l1 rfl) (.t rfl))<| .cons (.buildSlice (t := 4) (out := ([p_329.2] : List Int).flatMap eW) (l1 rfl) (nm rfl) (.cons (.t rfl) (by first | exact ⟨rfl,rfl⟩ | rfl) (.nil)) Try.underlying28 zero3 el3 (by decide) (by decide) rfl (still_all (encI_still .i64) _))<| .cons (.app (enc := eW) (l1 rfl) (nm rfl) (.t rfl) (Src.own (.t rfl) rfl (lendAll (encI_len .i64) _) (flatMap_length (encI_len .i64) _) (one_all (encI_one .i64) _) (.inl rfl)) Try.underlying28 ⟨_,Try.underlying28,by intro k hk; cases hk⟩ el3 rfl (encI_len .i64) rfl rfl (by decide) hl2_332)<| .cons (.assign (l1 rfl) (.t rfl))<| ARun.nil _ _ _) ?_
     exact endJ (t8_331,l2_332) h (VC.sub (.of rfl) (.of rfl))
    ·refine AWP.vc (s' := ⟨[(1,rW β3 a1 eW),(2,rW β4 a2 eW),(3,.ptr 1 0),(7,.own 2 1 0 x_223.2.length),(8,iW x_223.1),(9,iW (0 : Int)),(10,iW (0 : Int)),(11,bW true),(12,iW (0 : Int))],[(1,⟨25,false,(pW β1 β2 a0)⟩),(2,⟨3,true,x_223.2.flatMap eW⟩)]⟩) (VC.sub (.of rfl) (.of rfl)) ?_
     refine AWP.loopM (S := fun x_293 : Int × Int × Bool × Int => ⟨[(1,rW β3 a1 eW),(2,rW β4 a2 eW),(3,.ptr 1 0),(7,.own 2 1 0 x_223.2.length),(8,iW x_223.1),(9,iW x_293.1),(10,iW x_293.2.1),(11,bW x_293.2.2.1),(12,iW x_293.2.2.2)],[(1,⟨25,false,(pW β1 β2 a0)⟩),(2,⟨3,true,x_223.2.flatMap eW⟩)]⟩) (x := ((0 : Int),(0 : Int),true,(0 : Int))) (fun nx_294 x_293 h => ?_) h
     unfold m52_L12 at h
     refine AWP.seq ?_
     refine AWP.seq ?_
     refine AWP.rg (.cons (.move (l1 rfl) (.t rfl))<| .cons (.move (l1 rfl) (.t rfl))<| .cons (.lenRd (l1 rfl) (.t rfl) Try.underlying28)<| .cons (.lss (l1 rfl) (.t rfl) (.t rfl))<| ARun.nil _ _ _) ?_
     refine AWP.vc (s' := ⟨[(1,rW β3 a1 eW),(2,rW β4 a2 eW),(3,.ptr 1 0),(7,.own 2 1 0 x_223.2.length),(8,iW x_223.1),(9,iW x_293.1),(10,iW x_293.2.1),(11,bW x_293.2.2.1),(12,iW x_293.2.2.2),(33,bW (decide (x_293.2.2.2 < (a2.length : Int))))],[(1,⟨25,false,(pW β1 β2 a0)⟩),(2,⟨3,true,x_223.2.flatMap eW⟩)]⟩) (VC.sub (.of rfl) (.of rfl)) ?_
     refine AWP.cond (.t rfl) (fun hc => ?_) (fun hc => ?_)
     ·have h := iteT hc h
      refine AWP.skip ?_
      refine AWP.seq ?_
      refine AWP.block ?_
      refine AWP.seq ?_
      refine AWP.rg (.cons (.assign (l1 rfl) (.const _ _ _))<| ARun.nil _ _ _) ?_
      refine AWP.vc (s' := ⟨[(1,rW β3 a1 eW),(2,rW β4 a2 eW),(3,.ptr 1 0),(7,.own 2 1 0 x_223.2.length),(8,iW x_223.1),(9,iW x_293.1),(10,iW x_293.2.1),(11,bW x_293.2.2.1),(12,iW x_293.2.2.2),(13,iW (0 : Int))],[(1,⟨25,false,(pW β1 β2 a0)⟩),(2,⟨3,true,x_223.2.flatMap eW⟩)]⟩) (VC.sub (.of rfl) (.of rfl)) ?_
      refine AWP.joinB' (S := fun p_326 : Int × Int × Bool => ⟨[(1,rW β3 a1 eW),(2,rW β4 a2 eW),(3,.ptr 1 0),(7,.own 2 1 0 x_223.2.length),(8,iW x_223.1),(9,iW p_326.1),(10,iW p_326.2.1),(11,bW p_326.2.2),(12,iW x_293.2.2.2)],[(1,⟨25,false,(pW β1 β2 a0)⟩),(2,⟨3,true,x_223.2.flatMap eW⟩)]⟩) h (fun p_326 h => ?_) (fun k_327 h => ?_)
      ·obtain ⟨t12_328,ht12_328,h⟩ := letS h
       refine AWP.rg (.cons (.move (l1 rfl) (.t rfl))<| .cons (.add (l1 rfl) (.t rfl) (.const _ _ _))<| .cons (.assign (l1 rfl) (.t rfl))<| ARun.nil _ _ _) ?_
       exact endJ (p_326.1,p_326.2.1,p_326.2.2,t12_328) h (by subst ht12_328; exact VC.sub (.of rfl) (.of rfl))
      ·refine AWP.vc (s' := ⟨[(1,rW β3 a1 eW),(2,rW β4 a2 eW),(3,.ptr 1 0),(7,.own 2 1 0 x_223.2.length),(8,iW x_223.1),(9,iW x_293.1),(10,iW x_293.2.1),(11,bW x_293.2.2.1),(12,iW x_293.2.2.2),(13,iW (0 : Int))],[(1,⟨25,false,(pW β1 β2 a0)⟩),(2,⟨3,true,x_223.2.flatMap eW⟩)]⟩) (VC.sub (.of rfl) (.of rfl)) ?_
       refine AWP.loopM (S := fun x_315 : Int × Int × Bool × Int => ⟨[(1,rW β3 a1 eW),(2,rW β4 a2 eW),(3,.ptr 1 0),(7,.own 2 1 0 x_223.2.length),(8,iW x_223.1),(9,iW x_315.1),(10,iW x_315.2.1),(11,bW x_315.2.2.1),(12,iW x_293.2.2.2),(13,iW x_315.2.2.2)],[(1,⟨25,false,(pW β1 β2 a0)⟩),(2,⟨3,true,x_223.2.flatMap eW⟩)]⟩) (x := (x_293.1,x_293.2.1,x_293.2.2.1,(0 : Int))) (fun nx_316 x_315 h => ?_) h
       unfold m52_L13 at h
       refine AWP.seq ?_
       refine AWP.seq ?_
       obtain ⟨y_317,hy_317,h⟩ := bindS h
       obtain ⟨y_318,hy_318,h⟩ := bindS h
       refine AWP.rg (.cons (.move (l1 rfl) (.t rfl))<| .cons (.move (l1 rfl) (.t rfl))<| .cons (.lenOwn (l1 rfl) (.t rfl) Try.underlying28)<| .cons (.lss (l1 rfl) (.t rfl) (.t rfl))<| .cons (.move (l1 rfl) (.t rfl))<| .guard (j := 4) (dj := 40) rfl (l1 rfl) rfl (l1 rfl) (fun hg => .move (l1 rfl) (.t rfl))<| .guard (j := 4) (dj := 40) rfl (l1 rfl) rfl (l1 rfl) (fun hg => .move (l1 rfl) (.t rfl))<| .guard (j := 4) (dj := 40) rfl (l1 rfl) rfl (l1 rfl) (fun hg => .move (l1 rfl) (.t rfl))<| .guard (j := 4) (dj := 40) rfl (l1 rfl) rfl (l1 rfl) (fun hg => .indexRd (enc := eW) (l1 rfl) (.gd hg (.t rfl)) (.gd hg (.t rfl)) Try.underlying28 sz3 (encI_len .i64) rfl (gdB hy_317 hg))<| .guard (j := 4) (dj := 40) rfl (l1 rfl) rfl (l1 rfl) (fun hg => .loadR (v := iW y_317) (l1 rfl) (.gd hg (.t rfl)) one3 rfl)<| .guard (j := 4) (dj := 40) rfl (l1 rfl) rfl (l1 rfl) (fun hg => .call0 (bw := true) (l1 rfl) (c73 (β1 := true) n x_223.2 y_317 (gdB hy_318 hg)) (.cons (.gd hg (.t rfl)) (.lendRow rfl rfl (encI_len .i64) rfl) (.cons (.gd hg (.t rfl)) (.ren rfl) (.nil))) rfl)<| .guard (j := 4) (dj := 40) rfl (l1 rfl) rfl (l1 rfl) (fun hg => .not (l1 rfl) (.gd hg (.t rfl)))<| .cons (.pickAnd (l1 rfl) (.t rfl) (.t rfl) (.const _ _ _))<| ARun.nil _ _ _) ?_
       refine AWP.vc (s' := ⟨[(1,rW β3 a1 eW),(2,rW β4 a2 eW),(3,.ptr 1 0),(7,.own 2 1 0 x_223.2.length),(8,iW x_223.1),(9,iW x_315.1),(10,iW x_315.2.1),(11,bW x_315.2.2.1),(12,iW x_293.2.2.2),(13,iW x_315.2.2.2),(48,bW ((decide (x_315.2.2.2 < (x_223.2.length : Int))) && (!y_318)))],[(1,⟨25,false,(pW β1 β2 a0)⟩),(2,⟨3,true,x_223.2.flatMap eW⟩)]⟩) (VC.sub (.of rfl) (.of rfl)) ?_
       refine AWP.cond (.t rfl) (fun hc => ?_) (fun hc => ?_)
       ·have h := iteT hc h
        refine AWP.skip ?_
        refine AWP.seq ?_
        refine AWP.block ?_
        refine AWP.seq ?_
        obtain ⟨y_319,hy_319,h⟩ := bindS h
        obtain ⟨y_320,hy_320,h⟩ := bindS h
        obtain ⟨y_321,hy_321,h⟩ := bindS h
        refine AWP.draw (s' := ⟨[(1,rW β3 a1 eW),(2,rW β4 a2 eW),(3,.ptr 1 0),(7,.own 2 1 0 x_223.2.length),(8,iW x_223.1),(9,iW x_315.1),(10,iW x_315.2.1),(11,bW x_315.2.2.1),(12,iW x_293.2.2.2),(13,iW x_315.2.2.2),(14,iW y_321)],[(1,⟨25,false,(pW β1 β2 a0)⟩),(2,⟨3,true,x_223.2.flatMap eW⟩)]⟩) mixed [⟨1,rW β3 a1 eW,none,[]⟩,⟨2,rW β4 a2 eW,none,[]⟩,⟨3,.ptr 1 0,none,[]⟩,⟨7,.own 2 1 0 x_223.2.length,none,[]⟩,⟨8,iW x_223.1,none,[]⟩,⟨9,iW x_315.1,none,[]⟩,⟨10,iW x_315.2.1,none,[]⟩,⟨11,bW x_315.2.2.1,none,[]⟩,⟨12,iW x_293.2.2.2,none,[]⟩,⟨13,iW x_315.2.2.2,none,[]⟩,⟨48,bW ((decide (x_315.2.2.2 < (x_223.2.length : Int))) && (!y_318)),none,[]⟩,⟨51,.agg (pW β1 β2 a0),some 0,[]⟩,⟨52,rW β3 a1 eW,some 1,[]⟩,⟨53,rW β4 a2 eW,some 2,[]⟩,⟨54,iW x_293.2.2.2,some 3,[]⟩,⟨55,.rptr β4 [iW y_319],some 4,[]⟩,⟨56,iW y_319,some 5,[]⟩,⟨57,.own 2 1 0 x_223.2.length,some 6,[]⟩,⟨58,iW x_315.2.2.2,some 7,[]⟩,⟨59,.ptr 2 (0 + (x_315.2.2.2).toNat * 1),some 8,[]⟩,⟨60,iW y_320,some 9,[]⟩,⟨61,iW y_321,some 10,[]⟩,⟨14,iW y_321,some 11,[]⟩] [⟨[2],0,0,some (51,.agg (pW β1 β2 a0)),[]⟩,⟨[0],0,0,some (52,rW β3 a1 eW),[]⟩,⟨[1],0,0,some (53,rW β4 a2 eW),[]⟩,⟨[8],0,0,some (54,iW x_293.2.2.2),[]⟩,⟨[13,14],0,0,some (55,.rptr β4 [iW y_319]),[]⟩,⟨[15],0,0,some (56,iW y_319),[]⟩,⟨[3],0,0,some (57,.own 2 1 0 x_223.2.length),[]⟩,⟨[9],0,0,some (58,iW x_315.2.2.2),[]⟩,⟨[17,18],0,0,some (59,.ptr 2 (0 + (x_315.2.2.2).toNat * 1)),[]⟩,⟨[19],0,0,some (60,iW y_320),[]⟩,⟨[11,12,16,20],0,0,some (61,iW y_321),[]⟩,⟨[21],0,0,some (14,iW y_321),[]⟩] [] [[(1,⟨25,false,(pW β1 β2 a0)⟩),(2,⟨3,true,x_223.2.flatMap eW⟩)]] [[],[],[],[],[2,3],[2,3,4],[],[],[6,7],[6,7,8],[0,1,2,3,4,5,6,7,8,9],[0,1,2,3,4,5,6,7,8,9,10]] (by kernel_rfl) (by kernel_rfl) (BornL.ok (.o<| .o<| .o<| .o<| .o<| .o<| .o<| .o<| .o<| .o<| .o<| .b rfl rfl<| .b rfl rfl<| .b rfl rfl<| .b rfl rfl<| .b rfl rfl<| .b rfl rfl<| .b rfl rfl<| .b rfl rfl<| .b rfl rfl<| .b rfl rfl<| .b rfl rfl<| .b rfl rfl<| .n)) (BaseL.ok (.o rfl<| .o rfl<| .o rfl<| .o rfl<| .o rfl<| .o rfl<| .o rfl<| .o rfl<| .o rfl<| .o rfl<| .o rfl<| .b<| .b<| .b<| .b<| .b<| .b<| .b<| .b<| .b<| .b<| .b<| .b<| .n)) rfl (by decide) (allLt rfl) (.read rfl (.c (.put (fun E hE => .loadPA (l1 rfl) (.tmp (hE.at (k := 0) rfl)) agg25 rfl rfl rfl rfl)) .n)<| .pure rfl (fun H => .put (fun E hE => .move (l1 rfl) (.tmp (hE.at (k := 0) rfl))))<| .pure rfl (fun H => .put (fun E hE => .move (l1 rfl) (.tmp (hE.at (k := 0) rfl))))<| .pure rfl (fun H => .put (fun E hE => .move (l1 rfl) (.tmp (hE.at (k := 0) rfl))))<| .pure rfl (fun H => .put (fun E hE => .indexRd (enc := eW) (l1 rfl) (.tmp (hE.at (k := 0) rfl)) (.tmp (hE.at (k := 1) rfl)) Try.underlying28 sz3 (encI_len .i64) rfl hy_319))<| .pure rfl (fun H => .put (fun E hE => .loadR (v := iW y_319) (l1 rfl) (.tmp (hE.at (k := 0) rfl)) one3 rfl))<| .read rfl (.c (.put (fun E hE => .move (l1 rfl) (.tmp (hE.at (k := 0) rfl)))) .n)<| .pure rfl (fun H => .put (fun E hE => .move (l1 rfl) (.tmp (hE.at (k := 0) rfl))))<| .read rfl (.c (.put (fun E hE => .idxOwn (l1 rfl) (.tmp (hE.at (k := 0) rfl)) (.tmp (hE.at (k := 1) rfl)) Try.underlying28 sz3 rfl hy_320)) .n)<| .read rfl (.c (.put (fun E hE => .loadP (l1 rfl) (.tmp (hE.at (k := 0) rfl)) one3 rfl (cell_at1 (encI_len .i64) hy_320) rfl)) .n)<| .pure rfl (fun H => .put (fun E hE => .call0 (bw := false) (l1 rfl) (c51 (β1 := β1) (β2 := β2) (β3 := β3) n (R24.mk a0.Pq a0.Bq) a1 y_319 y_320 hy_321) (.cons (.tmp (hE.at (k := 0) rfl)) (.ren rfl) (.cons (.tmp (hE.at (k := 1) rfl)) (.ren rfl) (.cons (.tmp (hE.at (k := 2) rfl)) (.ren rfl) (.cons (.tmp (hE.at (k := 3) rfl)) (.ren rfl) (.nil))))) rfl))<| .pure rfl (fun H => .put (fun E hE => .assign (l1 rfl) (.tmp (hE.at (k := 0) rfl))))<| .nil _) (fun E hE => .c (DInv.at hE (k := 0) rfl rfl rfl)<| .c (DInv.at hE (k := 1) rfl rfl rfl)<| .c (DInv.at hE (k := 2) rfl rfl rfl)<| .c (DInv.at hE (k := 3) rfl rfl rfl)<| .c (DInv.at hE (k := 4) rfl rfl rfl)<| .c (DInv.at hE (k := 5) rfl rfl rfl)<| .c (DInv.at hE (k := 6) rfl rfl rfl)<| .c (DInv.at hE (k := 7) rfl rfl rfl)<| .c (DInv.at hE (k := 8) rfl rfl rfl)<| .c (DInv.at hE (k := 9) rfl rfl rfl)<| .c (DInv.at hE (k := 22) rfl rfl rfl)<| .n _) rfl ?_
        refine AWP.vc (s' := ⟨[(1,rW β3 a1 eW),(2,rW β4 a2 eW),(3,.ptr 1 0),(7,.own 2 1 0 x_223.2.length),(8,iW x_223.1),(9,iW x_315.1),(10,iW x_315.2.1),(11,bW x_315.2.2.1),(12,iW x_293.2.2.2),(13,iW x_315.2.2.2),(14,iW y_321)],[(1,⟨25,false,(pW β1 β2 a0)⟩),(2,⟨3,true,x_223.2.flatMap eW⟩)]⟩) (VC.sub (.of rfl) (.of rfl)) ?_
        refine AWP.seq ?_
        refine AWP.rg (.cons (.move (l1 rfl) (.t rfl))<| .cons (.move (l1 rfl) (.t rfl))<| .guard (j := 1) (dj := 63) rfl (l1 rfl) rfl (l1 rfl) (fun hg => .move (l1 rfl) (.t rfl))<| .guard (j := 1) (dj := 63) rfl (l1 rfl) rfl (l1 rfl) (fun hg => .move (l1 rfl) (.t rfl))<| .guard (j := 1) (dj := 63) rfl (l1 rfl) rfl (l1 rfl) (fun hg => .lss (l1 rfl) (.gd hg (.t rfl)) (.gd hg (.t rfl)))<| .cons (.pickOr (l1 rfl) (.t rfl) (.const _ _ _) (.t rfl))<| ARun.nil _ _ _) ?_
        refine AWP.vc (s' := ⟨[(1,rW β3 a1 eW),(2,rW β4 a2 eW),(3,.ptr 1 0),(7,.own 2 1 0 x_223.2.length),(8,iW x_223.1),(9,iW x_315.1),(10,iW x_315.2.1),(11,bW x_315.2.2.1),(12,iW x_293.2.2.2),(13,iW x_315.2.2.2),(14,iW y_321),(67,bW (x_315.2.2.1 || (decide (y_321 < x_315.1))))],[(1,⟨25,false,(pW β1 β2 a0)⟩),(2,⟨3,true,x_223.2.flatMap eW⟩)]⟩) (VC.sub (.of rfl) (.of rfl)) ?_
        refine AWP.join' (S := fun p_323 : Int × Int × Bool => ⟨[(1,rW β3 a1 eW),(2,rW β4 a2 eW),(3,.ptr 1 0),(7,.own 2 1 0 x_223.2.length),(8,iW x_223.1),(9,iW p_323.1),(10,iW p_323.2.1),(11,bW p_323.2.2),(12,iW x_293.2.2.2),(13,iW x_315.2.2.2)],[(1,⟨25,false,(pW β1 β2 a0)⟩),(2,⟨3,true,x_223.2.flatMap eW⟩)]⟩) h (fun p_323 h => ?_) (fun k_324 h => ?_)
        ·obtain ⟨t13_325,ht13_325,h⟩ := letS h
         refine AWP.rg (.cons (.move (l1 rfl) (.t rfl))<| .cons (.add (l1 rfl) (.t rfl) (.const _ _ _))<| .cons (.assign (l1 rfl) (.t rfl))<| ARun.nil _ _ _) ?_
         exact endJ (p_323.1,p_323.2.1,p_323.2.2,t13_325) h (by subst ht13_325; exact VC.sub (.of rfl) (.of rfl))
        ·refine AWP.cond (.t rfl) (fun hc => ?_) (fun hc => ?_)
         ·have h := iteT hc h
          obtain ⟨y_322,hy_322,h⟩ := bindS h
          refine AWP.draw (s' := ⟨[(1,rW β3 a1 eW),(2,rW β4 a2 eW),(3,.ptr 1 0),(7,.own 2 1 0 x_223.2.length),(8,iW x_223.1),(9,iW y_321),(10,iW y_322),(11,bW false),(12,iW x_293.2.2.2),(13,iW x_315.2.2.2)],[(1,⟨25,false,(pW β1 β2 a0)⟩),(2,⟨3,true,x_223.2.flatMap eW⟩)]⟩) mixed [⟨1,rW β3 a1 eW,none,[]⟩,⟨2,rW β4 a2 eW,none,[]⟩,⟨3,.ptr 1 0,none,[]⟩,⟨7,.own 2 1 0 x_223.2.length,none,[]⟩,⟨8,iW x_223.1,none,[]⟩,⟨9,iW x_315.1,none,[5]⟩,⟨10,iW x_315.2.1,none,[6]⟩,⟨11,bW x_315.2.2.1,none,[7]⟩,⟨12,iW x_293.2.2.2,none,[]⟩,⟨13,iW x_315.2.2.2,none,[]⟩,⟨14,iW y_321,none,[]⟩,⟨67,bW (x_315.2.2.1 || (decide (y_321 < x_315.1))),none,[]⟩,⟨68,iW y_321,some 0,[]⟩,⟨69,rW β4 a2 eW,some 1,[]⟩,⟨70,iW x_293.2.2.2,some 2,[]⟩,⟨71,.rptr β4 [iW y_322],some 3,[]⟩,⟨72,iW y_322,some 4,[]⟩,⟨9,iW y_321,some 5,[]⟩,⟨10,iW y_322,some 6,[]⟩,⟨11,bW false,some 7,[]⟩] [⟨[10],0,0,some (68,iW y_321),[]⟩,⟨[1],0,0,some (69,rW β4 a2 eW),[]⟩,⟨[8],0,0,some (70,iW x_293.2.2.2),[]⟩,⟨[13,14],0,0,some (71,.rptr β4 [iW y_322]),[]⟩,⟨[15],0,0,some (72,iW y_322),[]⟩,⟨[12],0,0,some (9,iW y_321),[]⟩,⟨[16],0,0,some (10,iW y_322),[]⟩,⟨[],0,0,some (11,bW false),[]⟩] [] [[(1,⟨25,false,(pW β1 β2 a0)⟩),(2,⟨3,true,x_223.2.flatMap eW⟩)]] [[],[],[],[1,2],[1,2,3],[0],[0,1,2,3,4,5],[0,1,2,3,4,5,6]] (by kernel_rfl) (by kernel_rfl) (BornL.ok (.o<| .o<| .o<| .o<| .o<| .o<| .o<| .o<| .o<| .o<| .o<| .o<| .b rfl rfl<| .b rfl rfl<| .b rfl rfl<| .b rfl rfl<| .b rfl rfl<| .b rfl rfl<| .b rfl rfl<| .b rfl rfl<| .n)) (BaseL.ok (.o rfl<| .o rfl<| .o rfl<| .o rfl<| .o rfl<| .o rfl<| .o rfl<| .o rfl<| .o rfl<| .o rfl<| .o rfl<| .o rfl<| .b<| .b<| .b<| .b<| .b<| .b<| .b<| .b<| .n)) rfl (by decide) (allLt rfl) (.pure rfl (fun H => .put (fun E hE => .move (l1 rfl) (.tmp (hE.at (k := 0) rfl))))<| .pure rfl (fun H => .put (fun E hE => .move (l1 rfl) (.tmp (hE.at (k := 0) rfl))))<| .pure rfl (fun H => .put (fun E hE => .move (l1 rfl) (.tmp (hE.at (k := 0) rfl))))<| .pure rfl (fun H => .put (fun E hE => .indexRd (enc := eW) (l1 rfl) (.tmp (hE.at (k := 0) rfl)) (.tmp (hE.at (k := 1) rfl)) Try.underlying28 sz3 (encI_len .i64) rfl hy_322))<| .pure rfl (fun H => .put (fun E hE => .loadR (v := iW y_322) (l1 rfl) (.tmp (hE.at (k := 0) rfl)) one3 rfl))<| .pure rfl (fun H => .put (fun E hE => .assign (l1 rfl) (.tmp (hE.at (k := 0) rfl))))<| .pure rfl (fun H => .put (fun E hE => .assign (l1 rfl) (.tmp (hE.at (k := 0) rfl))))<| .pure rfl (fun H => .put (fun E hE => .assign (l1 rfl) (.const _ _ _)))<| .nil _) (fun E hE => .c (DInv.at hE (k := 0) rfl rfl rfl)<| .c (DInv.at hE (k := 1) rfl rfl rfl)<| .c (DInv.at hE (k := 2) rfl rfl rfl)<| .c (DInv.at hE (k := 3) rfl rfl rfl)<| .c (DInv.at hE (k := 4) rfl rfl rfl)<| .c (DInv.at hE (k := 17) rfl rfl rfl)<| .c (DInv.at hE (k := 18) rfl rfl rfl)<| .c (DInv.at hE (k := 19) rfl rfl rfl)<| .c (DInv.at hE (k := 8) rfl rfl rfl)<| .c (DInv.at hE (k := 9) rfl rfl rfl)<| .n _) rfl ?_
          exact endJ (y_321,y_322,false) h (VC.sub (.of rfl) (.of rfl))
         ·have h := iteF hc h
          refine AWP.skip ?_
          exact endJ (x_315.1,x_315.2.1,x_315.2.2.1) h (VC.sub (.of rfl) (.of rfl))
       ·have h := iteF hc h
        refine AWP.exit ?_
        exact endJ (x_315.1,x_315.2.1,x_315.2.2.1) h (VC.sub (.of rfl) (.of rfl))
     ·have h := iteF hc h
      refine AWP.exit ?_
      exact endJ (x_293.1,x_293.2.1) h (VC.sub (.of rfl) (.of rfl))
   ·have h := iteF hc h
    refine AWP.exit ?_
    exact endJ x_223.1 h (VC.sub (.of rfl) (.n _))
 ·refine AWP.cond (.t rfl) (fun hc => ?_) (fun hc => ?_)
  ·have h := iteT hc h
   obtain ⟨y_1,hy_1,h⟩ := bindS h
   obtain ⟨l2_2,hl2_2,h⟩ := bindS h
   refine AWP.rg (.cons (.move (l1 rfl) (.t rfl))<| .cons (.move (l1 rfl) (.t rfl))<| .cons (.indexRd (enc := eW) (l1 rfl) (.t rfl) (.const _ _ _) Try.underlying28 sz3 (encI_len .i64) rfl hy_1)<| .cons (.loadR (v := iW y_1) (l1 rfl) (.t rfl) one3 rfl)<| .cons (.buildSlice (t := 3) (out := ([y_1] : List Int).flatMap eW) (l1 rfl) (nm rfl) (.cons (.t rfl) (by first | exact ⟨rfl,rfl⟩ | rfl) (.nil)) Try.underlying28 zero3 el3 (by decide) (by decide) rfl (still_all (encI_still .i64) _))<| .cons (.app (enc := eW) (l1 rfl) (nm rfl) (.t rfl) (Src.own (.t rfl) rfl (lendAll (encI_len .i64) _) (flatMap_length (encI_len .i64) _) (one_all (encI_one .i64) _) (.inl rfl)) Try.underlying28 ⟨_,Try.underlying28,by intro k hk; cases hk⟩ el3 rfl (encI_len .i64) rfl rfl (by decide) hl2_2)<| .cons (.assign (l1 rfl) (.t rfl))<| ARun.nil _ _ _) ?_
   exact endJ l2_2 h (VC.sub (.of rfl) (.of rfl))
  ·have h := iteF hc h
   refine AWP.skip ?_
   exact endJ ([] : List Int) h (VC.sub (.of rfl) (.of rfl))
theorem c19 {β1 : Bool} {β2 : Bool} {β3 : Bool} (n : Nat) (a0 : R24) (a1 : (List Int)) {r : (Int × Int)} (h : m19 n a0 a1 = some r) : Spec Try.prog 19 [] [.agg (pW β1 β2 a0),rW β3 a1 eW] [] (.tup [iW r.1,iW r.2]) [] := by
 refine Spec.of (fn := Try.f19) Try.func19 Try.ntmps19 rfl rfl (le1 rfl) (fun w0 Zs Zb T0 ι0 => ?_)
 unfold m19 at h
 refine AWP.seq ?_
 refine AWP.rg (.cons (.box (t := 1) (n := 2) (l1 rfl) (nm rfl) (.t rfl) (by first | exact ⟨rfl,rfl⟩ | rfl) rfl)<| .cons (.assign (l1 rfl) (.const _ _ _))<| .cons (.assign (l1 rfl) (.const _ _ _))<| ARun.nil _ _ _) ?_
 refine AWP.vc (s' := ⟨[(1,rW β3 a1 eW),(2,.ptr 1 0)],[(1,⟨25,false,(pW β1 β2 a0)⟩)]⟩) (VC.sub (.of rfl) (.of rfl)) ?_
 refine AWP.seq ?_
 refine AWP.block ?_
 refine AWP.seq ?_
 obtain ⟨y_1,hy_1,h⟩ := bindS h
 refine AWP.rg (.cons (.loadPA (l1 rfl) (.t rfl) agg25 rfl rfl rfl rfl)<| .cons (.call0 (bw := false) (l1 rfl) (c15 (β1 := β1) (β2 := β2) n (R24.mk a0.Pq a0.Bq) hy_1) (.cons (.t rfl) (.ren rfl) (.nil)) rfl)<| .cons (.not (l1 rfl) (.t rfl))<| .cons (.assign (l1 rfl) (.t rfl))<| ARun.nil _ _ _) ?_
 refine AWP.vc (s' := ⟨[(1,rW β3 a1 eW),(2,.ptr 1 0),(14,bW (!y_1))],[(1,⟨25,false,(pW β1 β2 a0)⟩)]⟩) (VC.sub (.of rfl) (.of rfl)) ?_
 refine AWP.cond (.t rfl) (fun hc => ?_) (fun hc => ?_)
 ·have h := iteT hc h
  refine AWP.seq ?_
  refine AWP.rg (.cons (.assign (l1 rfl) (.const _ _ _))<| .cons (.assign (l1 rfl) (.const _ _ _))<| ARun.nil _ _ _) ?_
  refine AWP.ret ?_
  obtain rfl := Option.some.inj h
  refine retJ (Res.vc (s' := ⟨[(4,iW (0 : Int)),(5,iW (1 : Int))],[]⟩) (VC.sub (.of rfl) (.n _)) ?_)
  refine Res.drop (H := []) rfl ?_
  exact Res.of rfl (.cons (.tmp rfl) (.cons (.tmp rfl) (.nil))) rfl rfl
 ·have h := iteF hc h
  refine AWP.seq ?_
  obtain ⟨y_2,hy_2,h⟩ := bindS h
  refine AWP.rg (.cons (.loadPA (l1 rfl) (.t rfl) agg25 rfl rfl rfl rfl)<| .cons (.move (l1 rfl) (.t rfl))<| .cons (.call0 (bw := false) (l1 rfl) (c50 (β1 := β1) (β2 := β2) (β3 := β3) n (R24.mk a0.Pq a0.Bq) a1 hy_2) (.cons (.t rfl) (.ren rfl) (.cons (.t rfl) (.ren rfl) (.nil))) rfl)<| .cons (.not (l1 rfl) (.t rfl))<| .cons (.assign (l1 rfl) (.t rfl))<| ARun.nil _ _ _) ?_
  refine AWP.vc (s' := ⟨[(1,rW β3 a1 eW),(2,.ptr 1 0),(18,bW (!y_2))],[(1,⟨25,false,(pW β1 β2 a0)⟩)]⟩) (VC.sub (.of rfl) (.of rfl)) ?_
  refine AWP.cond (.t rfl) (fun hc => ?_) (fun hc => ?_)
  ·have h := iteT hc h
   refine AWP.seq ?_
   refine AWP.rg (.cons (.assign (l1 rfl) (.const _ _ _))<| .cons (.assign (l1 rfl) (.const _ _ _))<| ARun.nil _ _ _) ?_
   refine AWP.ret ?_
   obtain rfl := Option.some.inj h
   refine retJ (Res.vc (s' := ⟨[(4,iW (0 : Int)),(5,iW (2 : Int))],[]⟩) (VC.sub (.of rfl) (.n _)) ?_)
   refine Res.drop (H := []) rfl ?_
   exact Res.of rfl (.cons (.tmp rfl) (.cons (.tmp rfl) (.nil))) rfl rfl
  ·have h := iteF hc h
   refine AWP.skip ?_
   refine AWP.seq ?_
   refine AWP.rg (.cons (.fieldP (l1 rfl) (.t rfl) fld25_0)<| .cons (.loadP (l1 rfl) (.t rfl) one22 rfl rfl rfl)<| .cons (.lenRd (l1 rfl) (.t rfl) Try.underlying22)<| .cons (.assign (l1 rfl) (.t rfl))<| ARun.nil _ _ _) ?_
   refine AWP.vc (s' := ⟨[(1,rW β3 a1 eW),(2,.ptr 1 0),(6,iW (a0.Pq.length : Int))],[(1,⟨25,false,(pW β1 β2 a0)⟩)]⟩) (VC.sub (.of rfl) (.of rfl)) ?_
   refine AWP.seq ?_
   refine AWP.seq ?_
   refine AWP.rg (.cons (.move (l1 rfl) (.t rfl))<| .cons (.lss (l1 rfl) (.t rfl) (.const _ _ _))<| ARun.nil _ _ _) ?_
   refine AWP.vc (s' := ⟨[(1,rW β3 a1 eW),(2,.ptr 1 0),(6,iW (a0.Pq.length : Int)),(27,bW (decide ((a0.Pq.length : Int) < (3 : Int))))],[(1,⟨25,false,(pW β1 β2 a0)⟩)]⟩) (VC.sub (.of rfl) (.of rfl)) ?_
   refine AWP.cond (.t rfl) (fun hc => ?_) (fun hc => ?_)
   ·have h := iteT hc h
    refine AWP.seq ?_
    obtain ⟨y_3,hy_3,h⟩ := bindS h
    obtain ⟨y_4,hy_4,h⟩ := bindS h
    obtain ⟨y_5,hy_5,h⟩ := bindS h
    obtain ⟨t4_6,ht4_6,h⟩ := letS h
    refine AWP.draw (s' := ⟨[(4,iW (IntKind.wrap .i64 ((2 : Int) * y_5))),(5,iW (0 : Int))],[(1,⟨25,false,(pW β1 β2 a0)⟩)]⟩) mixed [⟨1,rW β3 a1 eW,none,[]⟩,⟨2,.ptr 1 0,none,[]⟩,⟨6,iW (a0.Pq.length : Int),none,[]⟩,⟨27,bW (decide ((a0.Pq.length : Int) < (3 : Int))),none,[]⟩,⟨28,.ptr 1 (0 + 0),some 0,[]⟩,⟨29,rW β1 a0.Pq e45,some 1,[]⟩,⟨30,.rptr β1 [iW y_3.X,iW y_3.Y],some 2,[]⟩,⟨31,.agg [iW y_3.X,iW y_3.Y],some 3,[]⟩,⟨32,.ptr 1 (0 + 0),some 4,[]⟩,⟨33,rW β1 a0.Pq e45,some 5,[]⟩,⟨34,iW (a0.Pq.length : Int),some 6,[]⟩,⟨35,iW (IntKind.wrap .i64 ((a0.Pq.length : Int) - (1 : Int))),some 7,[]⟩,⟨36,.rptr β1 [iW y_4.X,iW y_4.Y],some 8,[]⟩,⟨37,.agg [iW y_4.X,iW y_4.Y],some 9,[]⟩,⟨38,iW y_5,some 10,[]⟩,⟨39,iW (IntKind.wrap .i64 ((2 : Int) * y_5)),some 11,[]⟩,⟨4,iW (IntKind.wrap .i64 ((2 : Int) * y_5)),some 12,[]⟩,⟨5,iW (0 : Int),some 13,[]⟩] [⟨[1],0,0,some (28,.ptr 1 (0 + 0)),[]⟩,⟨[4],0,0,some (29,rW β1 a0.Pq e45),[]⟩,⟨[5],0,0,some (30,.rptr β1 [iW y_3.X,iW y_3.Y]),[]⟩,⟨[6],0,0,some (31,.agg [iW y_3.X,iW y_3.Y]),[]⟩,⟨[1],0,0,some (32,.ptr 1 (0 + 0)),[]⟩,⟨[8],0,0,some (33,rW β1 a0.Pq e45),[]⟩,⟨[2],0,0,some (34,iW (a0.Pq.length : Int)),[]⟩,⟨[10],0,0,some (35,iW (IntKind.wrap .i64 ((a0.Pq.length : Int) - (1 : Int)))),[]⟩,⟨[9,11],0,0,some (36,.rptr β1 [iW y_4.X,iW y_4.Y]),[]⟩,⟨[12],0,0,some (37,.agg [iW y_4.X,iW y_4.Y]),[]⟩,⟨[7,13],0,0,some (38,iW y_5),[]⟩,⟨[14],0,0,some (39,iW (IntKind.wrap .i64 ((2 : Int) * y_5))),[]⟩,⟨[15],0,0,some (4,iW (IntKind.wrap .i64 ((2 : Int) * y_5))),[]⟩,⟨[],0,0,some (5,iW (0 : Int)),[]⟩] [] [[(1,⟨25,false,(pW β1 β2 a0)⟩)]] [[],[0],[0,1],[0,1,2],[],[4],[],[6],[4,5,6,7],[4,5,6,7,8],[0,1,2,3,4,5,6,7,8,9],[0,1,2,3,4,5,6,7,8,9,10],[0,1,2,3,4,5,6,7,8,9,10,11],[0,1,2,3,4,5,6,7,8,9,10,11,12]] (by kernel_rfl) (by kernel_rfl) (BornL.ok (.o<| .o<| .o<| .o<| .b rfl rfl<| .b rfl rfl<| .b rfl rfl<| .b rfl rfl<| .b rfl rfl<| .b rfl rfl<| .b rfl rfl<| .b rfl rfl<| .b rfl rfl<| .b rfl rfl<| .b rfl rfl<| .b rfl rfl<| .b rfl rfl<| .b rfl rfl<| .n)) (BaseL.ok (.o rfl<| .o rfl<| .o rfl<| .o rfl<| .b<| .b<| .b<| .b<| .b<| .b<| .b<| .b<| .b<| .b<| .b<| .b<| .b<| .b<| .n)) rfl (by decide) (allLt rfl) (.read rfl (.c (.put (fun E hE => .fieldP (l1 rfl) (.tmp (hE.at (k := 0) rfl)) fld25_0)) .n)<| .read rfl (.c (.put (fun E hE => .loadP (l1 rfl) (.tmp (hE.at (k := 0) rfl)) one22 rfl rfl rfl)) .n)<| .pure rfl (fun H => .put (fun E hE => .indexRd (enc := e45) (l1 rfl) (.tmp (hE.at (k := 0) rfl)) (.const _ _ _) Try.underlying22 sz46 encR45_len rfl hy_3))<| .pure rfl (fun H => .put (fun E hE => .loadRA (out := [iW y_3.X,iW y_3.Y]) (l1 rfl) (.tmp (hE.at (k := 0) rfl)) agg46 (Nat.le_of_eq (Eq.symm (encR45_len _))) rfl))<| .read rfl (.c (.put (fun E hE => .fieldP (l1 rfl) (.tmp (hE.at (k := 0) rfl)) fld25_0)) .n)<| .read rfl (.c (.put (fun E hE => .loadP (l1 rfl) (.tmp (hE.at (k := 0) rfl)) one22 rfl rfl rfl)) .n)<| .pure rfl (fun H => .put (fun E hE => .move (l1 rfl) (.tmp (hE.at (k := 0) rfl))))<| .pure rfl (fun H => .put (fun E hE => .sub (l1 rfl) (.tmp (hE.at (k := 0) rfl)) (.const _ _ _)))<| .pure rfl (fun H => .put (fun E hE => .indexRd (enc := e45) (l1 rfl) (.tmp (hE.at (k := 0) rfl)) (.tmp (hE.at (k := 1) rfl)) Try.underlying22 sz46 encR45_len rfl hy_4))<| .pure rfl (fun H => .put (fun E hE => .loadRA (out := [iW y_4.X,iW y_4.Y]) (l1 rfl) (.tmp (hE.at (k := 0) rfl)) agg46 (Nat.le_of_eq (Eq.symm (encR45_len _))) rfl))<| .pure rfl (fun H => .put (fun E hE => .call0 (bw := false) (l1 rfl) (c36 n (R45.mk y_3.X y_3.Y) (R45.mk y_4.X y_4.Y) hy_5) (.cons (.tmp (hE.at (k := 0) rfl)) (.ren rfl) (.cons (.tmp (hE.at (k := 1) rfl)) (.ren rfl) (.nil))) rfl))<| .pure rfl (fun H => .put (fun E hE => .mul (l1 rfl) (.const _ _ _) (.tmp (hE.at (k := 0) rfl))))<| .pure rfl (fun H => .put (fun E hE => .assign (l1 rfl) (.tmp (hE.at (k := 0) rfl))))<| .pure rfl (fun H => .put (fun E hE => .assign (l1 rfl) (.const _ _ _)))<| .nil _) (fun E hE => .c (DInv.at hE (k := 16) rfl rfl rfl)<| .c (DInv.at hE (k := 17) rfl rfl rfl)<| .n _) rfl ?_
    refine AWP.ret ?_
    obtain rfl := Option.some.inj h
    refine retJ (Res.vc (s' := ⟨[(4,iW t4_6),(5,iW (0 : Int))],[]⟩) (by subst ht4_6; exact VC.sub (.of rfl) (.n _)) ?_)
    refine Res.drop (H := []) rfl ?_
    exact Res.of rfl (.cons (.tmp rfl) (.cons (.tmp rfl) (.nil))) rfl rfl
   ·have h := iteF hc h
    refine AWP.skip ?_
    refine AWP.seq ?_
    refine AWP.rg (.cons (.assign (l1 rfl) (.const _ _ _))<| ARun.nil _ _ _) ?_
    refine AWP.vc (s' := ⟨[(1,rW β3 a1 eW),(2,.ptr 1 0),(6,iW (a0.Pq.length : Int)),(7,.sc (.slice none 0 0))],[(1,⟨25,false,(pW β1 β2 a0)⟩)]⟩) (VC.sub (.of rfl) (.of rfl)) ?_
    refine AWP.seq ?_
    refine AWP.rg (.cons (.assign (l1 rfl) (.const _ _ _))<| .cons (.assign (l1 rfl) (.const _ _ _))<| ARun.nil _ _ _) ?_
    refine AWP.vc (s' := ⟨[(1,rW β3 a1 eW),(2,.ptr 1 0),(6,iW (a0.Pq.length : Int)),(7,.sc (.slice none 0 0)),(8,iW (1 : Int)),(9,iW (2 : Int))],[(1,⟨25,false,(pW β1 β2 a0)⟩)]⟩) (VC.sub (.of rfl) (.of rfl)) ?_
    refine AWP.seq ?_
    refine AWP.seq ?_
    obtain ⟨y_7,hy_7,h⟩ := bindS h
    obtain ⟨y_8,hy_8,h⟩ := bindS h
    refine AWP.draw (s' := ⟨[(1,rW β3 a1 eW),(2,.ptr 1 0),(6,iW (a0.Pq.length : Int)),(7,.sc (.slice none 0 0)),(8,iW (1 : Int)),(9,iW (2 : Int)),(46,bW (decide (y_7 < y_8)))],[(1,⟨25,false,(pW β1 β2 a0)⟩)]⟩) mixed [⟨1,rW β3 a1 eW,none,[]⟩,⟨2,.ptr 1 0,none,[]⟩,⟨6,iW (a0.Pq.length : Int),none,[]⟩,⟨7,.sc (.slice none 0 0),none,[]⟩,⟨8,iW (1 : Int),none,[]⟩,⟨9,iW (2 : Int),none,[]⟩,⟨40,.agg (pW β1 β2 a0),some 0,[]⟩,⟨41,rW β3 a1 eW,some 1,[]⟩,⟨42,iW y_7,some 2,[]⟩,⟨43,.agg (pW β1 β2 a0),some 3,[]⟩,⟨44,rW β3 a1 eW,some 4,[]⟩,⟨45,iW y_8,some 5,[]⟩,⟨46,bW (decide (y_7 < y_8)),some 6,[]⟩] [⟨[1],0,0,some (40,.agg (pW β1 β2 a0)),[]⟩,⟨[0],0,0,some (41,rW β3 a1 eW),[]⟩,⟨[6,7],0,0,some (42,iW y_7),[]⟩,⟨[1],0,0,some (43,.agg (pW β1 β2 a0)),[]⟩,⟨[0],0,0,some (44,rW β3 a1 eW),[]⟩,⟨[9,10],0,0,some (45,iW y_8),[]⟩,⟨[8,11],0,0,some (46,bW (decide (y_7 < y_8))),[]⟩] [] [[(1,⟨25,false,(pW β1 β2 a0)⟩)]] [[],[],[0,1],[],[],[0,1,2,3,4],[0,1,2,3,4,5]] (by kernel_rfl) (by kernel_rfl) (BornL.ok (.o<| .o<| .o<| .o<| .o<| .o<| .b rfl rfl<| .b rfl rfl<| .b rfl rfl<| .b rfl rfl<| .b rfl rfl<| .b rfl rfl<| .b rfl rfl<| .n)) (BaseL.ok (.o rfl<| .o rfl<| .o rfl<| .o rfl<| .o rfl<| .o rfl<| .b<| .b<| .b<| .b<| .b<| .b<| .b<| .n)) rfl (by decide) (allLt rfl) (.read rfl (.c (.put (fun E hE => .loadPA (l1 rfl) (.tmp (hE.at (k := 0) rfl)) agg25 rfl rfl rfl rfl)) .n)<| .pure rfl (fun H => .put (fun E hE => .move (l1 rfl) (.tmp (hE.at (k := 0) rfl))))<| .pure rfl (fun H => .put (fun E hE => .call0 (bw := false) (l1 rfl) (c51 (β1 := β1) (β2 := β2) (β3 := β3) n (R24.mk a0.Pq a0.Bq) a1 (0 : Int) (2 : Int) hy_7) (.cons (.tmp (hE.at (k := 0) rfl)) (.ren rfl) (.cons (.tmp (hE.at (k := 1) rfl)) (.ren rfl) (.cons (.const _ _ _) (.ren rfl) (.cons (.const _ _ _) (.ren rfl) (.nil))))) rfl))<| .read rfl (.c (.put (fun E hE => .loadPA (l1 rfl) (.tmp (hE.at (k := 0) rfl)) agg25 rfl rfl rfl rfl)) .n)<| .pure rfl (fun H => .put (fun E hE => .move (l1 rfl) (.tmp (hE.at (k := 0) rfl))))<| .pure rfl (fun H => .put (fun E hE => .call0 (bw := false) (l1 rfl) (c51 (β1 := β1) (β2 := β2) (β3 := β3) n (R24.mk a0.Pq a0.Bq) a1 (0 : Int) (1 : Int) hy_8) (.cons (.tmp (hE.at (k := 0) rfl)) (.ren rfl) (.cons (.tmp (hE.at (k := 1) rfl)) (.ren rfl) (.cons (.const _ _ _) (.ren rfl) (.cons (.const _ _ _) (.ren rfl) (.nil))))) rfl))<| .pure rfl (fun H => .put (fun E hE => .lss (l1 rfl) (.tmp (hE.at (k := 0) rfl)) (.tmp (hE.at (k := 1) rfl))))<| .nil _) (fun E hE => .c (DInv.at hE (k := 0) rfl rfl rfl)<| .c (DInv.at hE (k := 1) rfl rfl rfl)<| .c (DInv.at hE (k := 2) rfl rfl rfl)<| .c (DInv.at hE (k := 3) rfl rfl rfl)<| .c (DInv.at hE (k := 4) rfl rfl rfl)<| .c (DInv.at hE (k := 5) rfl rfl rfl)<| .c (DInv.at hE (k := 12) rfl rfl rfl)<| .n _) rfl ?_
    refine AWP.vc (s' := ⟨[(1,rW β3 a1 eW),(2,.ptr 1 0),(6,iW (a0.Pq.length : Int)),(7,.sc (.slice none 0 0)),(8,iW (1 : Int)),(9,iW (2 : Int)),(46,bW (decide (y_7 < y_8)))],[(1,⟨25,false,(pW β1 β2 a0)⟩)]⟩) (VC.sub (.of rfl) (.of rfl)) ?_
    refine AWP.join' (S := fun p_9 : Int × Int => ⟨[(1,rW β3 a1 eW),(2,.ptr 1 0),(6,iW (a0.Pq.length : Int)),(7,.sc (.slice none 0 0)),(8,iW p_9.1),(9,iW p_9.2)],[(1,⟨25,false,(pW β1 β2 a0)⟩)]⟩) h (fun p_9 h => ?_) (fun k_10 h => ?_)
    ·refine AWP.seq ?_
     refine AWP.rg (.cons (.assign (l1 rfl) (.const _ _ _))<| ARun.nil _ _ _) ?_
     refine AWP.vc (s' := ⟨[(1,rW β3 a1 eW),(2,.ptr 1 0),(6,iW (a0.Pq.length : Int)),(7,.sc (.slice none 0 0)),(8,iW p_9.1),(9,iW p_9.2),(10,iW (0 : Int))],[(1,⟨25,false,(pW β1 β2 a0)⟩)]⟩) (VC.sub (.of rfl) (.of rfl)) ?_
     refine AWP.seq ?_
     refine AWP.seq ?_
     refine AWP.rg (.cons (.assign (l1 rfl) (.const _ _ _))<| ARun.nil _ _ _) ?_
     refine AWP.vc (s' := ⟨[(1,rW β3 a1 eW),(2,.ptr 1 0),(6,iW (a0.Pq.length : Int)),(7,.sc (.slice none 0 0)),(8,iW p_9.1),(9,iW p_9.2),(10,iW (0 : Int)),(11,iW (1 : Int))],[(1,⟨25,false,(pW β1 β2 a0)⟩)]⟩) (VC.sub (.of rfl) (.of rfl)) ?_
     refine AWP.joinB' (S := fun p_48 : Int × Int × (List Int) => ⟨[(1,rW β3 a1 eW),(2,.ptr 1 0),(6,iW (a0.Pq.length : Int)),(7,.own 2 1 0 p_48.2.2.length),(8,iW p_48.1),(9,iW p_48.2.1),(10,iW (0 : Int))],[(1,⟨25,false,(pW β1 β2 a0)⟩),(2,⟨3,true,p_48.2.2.flatMap eW⟩)]⟩) h (fun p_48 h => ?_) (fun k_49 h => ?_)
     ·refine AWP.seq ?_
      refine AWP.seq ?_
      refine AWP.rg (.cons (.assign (l1 rfl) (.const _ _ _))<| ARun.nil _ _ _) ?_
      refine AWP.vc (s' := ⟨[(1,rW β3 a1 eW),(2,.ptr 1 0),(6,iW (a0.Pq.length : Int)),(7,.own 2 1 0 p_48.2.2.length),(8,iW p_48.1),(9,iW p_48.2.1),(10,iW (0 : Int)),(13,iW (0 : Int))],[(1,⟨25,false,(pW β1 β2 a0)⟩),(2,⟨3,true,p_48.2.2.flatMap eW⟩)]⟩) (VC.sub (.of rfl) (.of rfl)) ?_
      refine AWP.joinB' (S := fun p_59 : Int => ⟨[(1,rW β3 a1 eW),(2,.ptr 1 0),(7,.own 2 1 0 p_48.2.2.length),(8,iW p_48.1),(9,iW p_48.2.1),(10,iW p_59)],[(1,⟨25,false,(pW β1 β2 a0)⟩),(2,⟨3,true,p_48.2.2.flatMap eW⟩)]⟩) h (fun p_59 h => ?_) (fun k_60 h => ?_)
      ·refine AWP.seq ?_
       obtain ⟨y_61,hy_61,h⟩ := bindS h
       obtain ⟨y_62,hy_62,h⟩ := bindS h
       obtain ⟨y_63,hy_63,h⟩ := bindS h
       obtain ⟨t4_64,ht4_64,h⟩ := letS h
       refine AWP.draw (s' := ⟨[(4,iW (IntKind.wrap .i64 ((IntKind.wrap .i64 ((IntKind.wrap .i64 (y_61 + y_62)) + y_63)) - (IntKind.wrap .i64 ((2 : Int) * p_59))))),(5,iW (0 : Int))],[(1,⟨25,false,(pW β1 β2 a0)⟩),(2,⟨3,true,p_48.2.2.flatMap eW⟩)]⟩) mixed [⟨1,rW β3 a1 eW,none,[]⟩,⟨2,.ptr 1 0,none,[]⟩,⟨7,.own 2 1 0 p_48.2.2.length,none,[]⟩,⟨8,iW p_48.1,none,[]⟩,⟨9,iW p_48.2.1,none,[]⟩,⟨10,iW p_59,none,[]⟩,⟨91,.agg (pW β1 β2 a0),some 0,[]⟩,⟨92,rW β3 a1 eW,some 1,[]⟩,⟨93,.own 2 1 0 p_48.2.2.length,some 2,[]⟩,⟨94,iW y_61,some 3,[]⟩,⟨95,.agg (pW β1 β2 a0),some 4,[]⟩,⟨96,rW β3 a1 eW,some 5,[]⟩,⟨97,iW p_48.1,some 6,[]⟩,⟨98,iW y_62,some 7,[]⟩,⟨99,iW (IntKind.wrap .i64 (y_61 + y_62)),some 8,[]⟩,⟨100,.agg (pW β1 β2 a0),some 9,[]⟩,⟨101,rW β3 a1 eW,some 10,[]⟩,⟨102,iW p_48.2.1,some 11,[]⟩,⟨103,iW y_63,some 12,[]⟩,⟨104,iW (IntKind.wrap .i64 ((IntKind.wrap .i64 (y_61 + y_62)) + y_63)),some 13,[]⟩,⟨105,iW p_59,some 14,[]⟩,⟨106,iW (IntKind.wrap .i64 ((2 : Int) * p_59)),some 15,[]⟩,⟨107,iW (IntKind.wrap .i64 ((IntKind.wrap .i64 ((IntKind.wrap .i64 (y_61 + y_62)) + y_63)) - (IntKind.wrap .i64 ((2 : Int) * p_59)))),some 16,[]⟩,⟨4,iW (IntKind.wrap .i64 ((IntKind.wrap .i64 ((IntKind.wrap .i64 (y_61 + y_62)) + y_63)) - (IntKind.wrap .i64 ((2 : Int) * p_59)))),some 17,[]⟩,⟨5,iW (0 : Int),some 18,[]⟩] [⟨[1],0,0,some (91,.agg (pW β1 β2 a0)),[]⟩,⟨[0],0,0,some (92,rW β3 a1 eW),[]⟩,⟨[2],0,0,some (93,.own 2 1 0 p_48.2.2.length),[]⟩,⟨[6,7,8],0,0,some (94,iW y_61),[]⟩,⟨[1],0,0,some (95,.agg (pW β1 β2 a0)),[]⟩,⟨[0],0,0,some (96,rW β3 a1 eW),[]⟩,⟨[3],0,0,some (97,iW p_48.1),[]⟩,⟨[10,11,12],0,0,some (98,iW y_62),[]⟩,⟨[9,13],0,0,some (99,iW (IntKind.wrap .i64 (y_61 + y_62))),[]⟩,⟨[1],0,0,some (100,.agg (pW β1 β2 a0)),[]⟩,⟨[0],0,0,some (101,rW β3 a1 eW),[]⟩,⟨[4],0,0,some (102,iW p_48.2.1),[]⟩,⟨[15,16,17],0,0,some (103,iW y_63),[]⟩,⟨[14,18],0,0,some (104,iW (IntKind.wrap .i64 ((IntKind.wrap .i64 (y_61 + y_62)) + y_63))),[]⟩,⟨[5],0,0,some (105,iW p_59),[]⟩,⟨[20],0,0,some (106,iW (IntKind.wrap .i64 ((2 : Int) * p_59))),[]⟩,⟨[19,21],0,0,some (107,iW (IntKind.wrap .i64 ((IntKind.wrap .i64 ((IntKind.wrap .i64 (y_61 + y_62)) + y_63)) - (IntKind.wrap .i64 ((2 : Int) * p_59))))),[]⟩,⟨[22],0,0,some (4,iW (IntKind.wrap .i64 ((IntKind.wrap .i64 ((IntKind.wrap .i64 (y_61 + y_62)) + y_63)) - (IntKind.wrap .i64 ((2 : Int) * p_59))))),[]⟩,⟨[],0,0,some (5,iW (0 : Int)),[]⟩] [] [[(1,⟨25,false,(pW β1 β2 a0)⟩),(2,⟨3,true,p_48.2.2.flatMap eW⟩)]] [[],[],[],[0,1,2],[],[],[],[0,1,2,3,4,5,6],[0,1,2,3,4,5,6,7],[],[],[],[0,1,2,3,4,5,6,7,9,10,11],[0,1,2,3,4,5,6,7,8,9,10,11,12],[],[14],[0,1,2,3,4,5,6,7,8,9,10,11,12,13,14,15],[0,1,2,3,4,5,6,7,8,9,10,11,12,13,14,15,16],[0,1,2,3,4,5,6,7,8,9,10,11,12,13,14,15,16,17]] (by kernel_rfl) (by kernel_rfl) (BornL.ok (.o<| .o<| .o<| .o<| .o<| .o<| .b rfl rfl<| .b rfl rfl<| .b rfl rfl<| .b rfl rfl<| .b rfl rfl<| .b rfl rfl<| .b rfl rfl<| .b rfl rfl<| .b rfl rfl<| .b rfl rfl<| .b rfl rfl<| .b rfl rfl<| .b rfl rfl<| .b rfl rfl<| .b rfl rfl<| .b rfl rfl<| .b rfl rfl<| .b rfl rfl<| .b rfl rfl<| .n)) (BaseL.ok (.o rfl<| .o rfl<| .o rfl<| .o rfl<| .o rfl<| .o rfl<| .b<| .b<| .b<| .b<| .b<| .b<| .b<| .b<| .b<| .b<| .b<| .b<| .b<| .b<| .b<| .b<| .b<| .b<| .b<| .n)) rfl (by decide) (allLt rfl) (.read rfl (.c (.put (fun E hE => .loadPA (l1 rfl) (.tmp (hE.at (k := 0) rfl)) agg25 rfl rfl rfl rfl)) .n)<| .pure rfl (fun H => .put (fun E hE => .move (l1 rfl) (.tmp (hE.at (k := 0) rfl))))<| .read rfl (.c (.put (fun E hE => .move (l1 rfl) (.tmp (hE.at (k := 0) rfl)))) .n)<| .read rfl (.c (.put (fun E hE => .call0 (bw := true) (l1 rfl) (c52 (β1 := β1) (β2 := β2) (β3 := β3) (β4 := true) n (R24.mk a0.Pq a0.Bq) a1 p_48.2.2 hy_61) (.cons (.tmp (hE.at (k := 0) rfl)) (.ren rfl) (.cons (.tmp (hE.at (k := 1) rfl)) (.ren rfl) (.cons (.tmp (hE.at (k := 2) rfl)) (.lendRow rfl rfl (encI_len .i64) rfl) (.nil)))) rfl)) .n)<| .read rfl (.c (.put (fun E hE => .loadPA (l1 rfl) (.tmp (hE.at (k := 0) rfl)) agg25 rfl rfl rfl rfl)) .n)<| .pure rfl (fun H => .put (fun E hE => .move (l1 rfl) (.tmp (hE.at (k := 0) rfl))))<| .pure rfl (fun H => .put (fun E hE => .move (l1 rfl) (.tmp (hE.at (k := 0) rfl))))<| .pure rfl (fun H => .put (fun E hE => .call0 (bw := false) (l1 rfl) (c51 (β1 := β1) (β2 := β2) (β3 := β3) n (R24.mk a0.Pq a0.Bq) a1 (0 : Int) p_48.1 hy_62) (.cons (.tmp (hE.at (k := 0) rfl)) (.ren rfl) (.cons (.tmp (hE.at (k := 1) rfl)) (.ren rfl) (.cons (.const _ _ _) (.ren rfl) (.cons (.tmp (hE.at (k := 2) rfl)) (.ren rfl) (.nil))))) rfl))<| .pure rfl (fun H => .put (fun E hE => .add (l1 rfl) (.tmp (hE.at (k := 0) rfl)) (.tmp (hE.at (k := 1) rfl))))<| .read rfl (.c (.put (fun E hE => .loadPA (l1 rfl) (.tmp (hE.at (k := 0) rfl)) agg25 rfl rfl rfl rfl)) .n)<| .pure rfl (fun H => .put (fun E hE => .move (l1 rfl) (.tmp (hE.at (k := 0) rfl))))<| .pure rfl (fun H => .put (fun E hE => .move (l1 rfl) (.tmp (hE.at (k := 0) rfl))))<| .pure rfl (fun H => .put (fun E hE => .call0 (bw := false) (l1 rfl) (c51 (β1 := β1) (β2 := β2) (β3 := β3) n (R24.mk a0.Pq a0.Bq) a1 (0 : Int) p_48.2.1 hy_63) (.cons (.tmp (hE.at (k := 0) rfl)) (.ren rfl) (.cons (.tmp (hE.at (k := 1) rfl)) (.ren rfl) (.cons (.const _ _ _) (.ren rfl) (.cons (.tmp (hE.at (k := 2) rfl)) (.ren rfl) (.nil))))) rfl))<| .pure rfl (fun H => .put (fun E hE => .add (l1 rfl) (.tmp (hE.at (k := 0) rfl)) (.tmp (hE.at (k := 1) rfl))))<| .pure rfl (fun H => .put (fun E hE => .move (l1 rfl) (.tmp (hE.at (k := 0) rfl))))<| .pure rfl (fun H => .put (fun E hE => .mul (l1 rfl) (.const _ _ _) (.tmp (hE.at (k := 0) rfl))))<| .pure rfl (fun H => .put (fun E hE => .sub (l1 rfl) (.tmp (hE.at (k := 0) rfl)) (.tmp (hE.at (k := 1) rfl))))<| .pure rfl (fun H => .put (fun E hE => .assign (l1 rfl) (.tmp (hE.at (k := 0) rfl))))<| .pure rfl (fun H => .put (fun E hE => .assign (l1 rfl) (.const _ _ _)))<| .nil _) (fun E hE => .c (DInv.at hE (k := 23) rfl rfl rfl)<| .c (DInv.at hE (k := 24) rfl rfl rfl)<| .n _) rfl ?_
       refine AWP.ret ?_
       obtain rfl := Option.some.inj h
       refine retJ (Res.vc (s' := ⟨[(4,iW t4_64),(5,iW (0 : Int))],[]⟩) (by subst ht4_64; exact VC.sub (.of rfl) (.n _)) ?_)
       refine Res.drop (H := []) rfl ?_
       exact Res.of rfl (.cons (.tmp rfl) (.cons (.tmp rfl) (.nil))) rfl rfl
      ·refine AWP.vc (s' := ⟨[(1,rW β3 a1 eW),(2,.ptr 1 0),(6,iW (a0.Pq.length : Int)),(7,.own 2 1 0 p_48.2.2.length),(8,iW p_48.1),(9,iW p_48.2.1),(10,iW (0 : Int)),(13,iW (0 : Int))],[(1,⟨25,false,(pW β1 β2 a0)⟩),(2,⟨3,true,p_48.2.2.flatMap eW⟩)]⟩) (VC.sub (.of rfl) (.of rfl)) ?_
       refine AWP.loopM (S := fun x_54 : Int × Int => ⟨[(1,rW β3 a1 eW),(2,.ptr 1 0),(6,iW (a0.Pq.length : Int)),(7,.own 2 1 0 p_48.2.2.length),(8,iW p_48.1),(9,iW p_48.2.1),(10,iW x_54.1),(13,iW x_54.2)],[(1,⟨25,false,(pW β1 β2 a0)⟩),(2,⟨3,true,p_48.2.2.flatMap eW⟩)]⟩) (x := ((0 : Int),(0 : Int))) (fun nx_55 x_54 h => ?_) h
       unfold m19_L2 at h
       refine AWP.seq ?_
       refine AWP.seq ?_
       refine AWP.rg (.cons (.move (l1 rfl) (.t rfl))<| .cons (.move (l1 rfl) (.t rfl))<| .cons (.lss (l1 rfl) (.t rfl) (.t rfl))<| ARun.nil _ _ _) ?_
       refine AWP.vc (s' := ⟨[(1,rW β3 a1 eW),(2,.ptr 1 0),(6,iW (a0.Pq.length : Int)),(7,.own 2 1 0 p_48.2.2.length),(8,iW p_48.1),(9,iW p_48.2.1),(10,iW x_54.1),(13,iW x_54.2),(82,bW (decide (x_54.2 < (a0.Pq.length : Int))))],[(1,⟨25,false,(pW β1 β2 a0)⟩),(2,⟨3,true,p_48.2.2.flatMap eW⟩)]⟩) (VC.sub (.of rfl) (.of rfl)) ?_
       refine AWP.cond (.t rfl) (fun hc => ?_) (fun hc => ?_)
       ·have h := iteT hc h
        refine AWP.skip ?_
        refine AWP.seq ?_
        refine AWP.block ?_
        obtain ⟨y_56,hy_56,h⟩ := bindS h
        obtain ⟨t10_57,ht10_57,h⟩ := letS h
        refine AWP.rg (.cons (.move (l1 rfl) (.t rfl))<| .cons (.move (l1 rfl) (.t rfl))<| .cons (.move (l1 rfl) (.t rfl))<| .cons (.indexRd (enc := eW) (l1 rfl) (.t rfl) (.t rfl) Try.underlying28 sz3 (encI_len .i64) rfl hy_56)<| .cons (.loadR (v := iW y_56) (l1 rfl) (.t rfl) one3 rfl)<| .cons (.add (l1 rfl) (.t rfl) (.t rfl))<| .cons (.assign (l1 rfl) (.t rfl))<| ARun.nil _ _ _) ?_
        refine AWP.vc (s' := ⟨[(1,rW β3 a1 eW),(2,.ptr 1 0),(6,iW (a0.Pq.length : Int)),(7,.own 2 1 0 p_48.2.2.length),(8,iW p_48.1),(9,iW p_48.2.1),(10,iW t10_57),(13,iW x_54.2)],[(1,⟨25,false,(pW β1 β2 a0)⟩),(2,⟨3,true,p_48.2.2.flatMap eW⟩)]⟩) (by subst ht10_57; exact VC.sub (.of rfl) (.of rfl)) ?_
        obtain ⟨t13_58,ht13_58,h⟩ := letS h
        refine AWP.rg (.cons (.move (l1 rfl) (.t rfl))<| .cons (.add (l1 rfl) (.t rfl) (.const _ _ _))<| .cons (.assign (l1 rfl) (.t rfl))<| ARun.nil _ _ _) ?_
        exact endJ (t10_57,t13_58) h (by subst ht13_58; exact VC.sub (.of rfl) (.of rfl))
       ·have h := iteF hc h
        refine AWP.exit ?_
        exact endJ x_54.1 h (VC.sub (.of rfl) (.of rfl))
     ·refine AWP.vc (VC.nilOwn (d := 7) (t := 2) (sz := 1) (E := 3) rfl (nm rfl)) ?_
      refine AWP.vc (s' := ⟨[(1,rW β3 a1 eW),(2,.ptr 1 0),(6,iW (a0.Pq.length : Int)),(7,.own 2 1 0 ([] : List Int).length),(8,iW p_9.1),(9,iW p_9.2),(10,iW (0 : Int)),(11,iW (1 : Int))],[(1,⟨25,false,(pW β1 β2 a0)⟩),(2,⟨3,true,([] : List Int).flatMap eW⟩)]⟩) (VC.sub (.of rfl) (.of rfl)) ?_
      refine AWP.loopM (S := fun x_35 : Int × Int × Int × (List Int) => ⟨[(1,rW β3 a1 eW),(2,.ptr 1 0),(6,iW (a0.Pq.length : Int)),(7,.own 2 1 0 x_35.2.2.2.length),(8,iW x_35.1),(9,iW x_35.2.1),(10,iW (0 : Int)),(11,iW x_35.2.2.1)],[(1,⟨25,false,(pW β1 β2 a0)⟩),(2,⟨3,true,x_35.2.2.2.flatMap eW⟩)]⟩) (x := (p_9.1,p_9.2,(1 : Int),([] : List Int))) (fun nx_36 x_35 h => ?_) h
      unfold m19_L1 at h
      refine AWP.seq ?_
      refine AWP.seq ?_
      refine AWP.rg (.cons (.move (l1 rfl) (.t rfl))<| .cons (.move (l1 rfl) (.t rfl))<| .cons (.lss (l1 rfl) (.t rfl) (.t rfl))<| ARun.nil _ _ _) ?_
      refine AWP.vc (s' := ⟨[(1,rW β3 a1 eW),(2,.ptr 1 0),(6,iW (a0.Pq.length : Int)),(7,.own 2 1 0 x_35.2.2.2.length),(8,iW x_35.1),(9,iW x_35.2.1),(10,iW (0 : Int)),(11,iW x_35.2.2.1),(49,bW (decide (x_35.2.2.1 < (a0.Pq.length : Int))))],[(1,⟨25,false,(pW β1 β2 a0)⟩),(2,⟨3,true,x_35.2.2.2.flatMap eW⟩)]⟩) (VC.sub (.of rfl) (.of rfl)) ?_
      refine AWP.cond (.t rfl) (fun hc => ?_) (fun hc => ?_)
      ·have h := iteT hc h
       refine AWP.skip ?_
       refine AWP.seq ?_
       refine AWP.block ?_
       refine AWP.seq ?_
       obtain ⟨l2_37,hl2_37,h⟩ := bindS h
       refine AWP.rg (.cons (.move (l1 rfl) (.t rfl))<| .cons (.move (l1 rfl) (.t rfl))<| .cons (.buildSlice (t := 3) (out := ([x_35.2.2.1] : List Int).flatMap eW) (l1 rfl) (nm rfl) (.cons (.t rfl) (by first | exact ⟨rfl,rfl⟩ | rfl) (.nil)) Try.underlying28 zero3 el3 (by decide) (by decide) rfl (still_all (encI_still .i64) _))<| .cons (.app (enc := eW) (l1 rfl) (nm rfl) (.t rfl) (Src.own (.t rfl) rfl (lendAll (encI_len .i64) _) (flatMap_length (encI_len .i64) _) (one_all (encI_one .i64) _) (.inl rfl)) Try.underlying28 ⟨_,Try.underlying28,by intro k hk; cases hk⟩ el3 rfl (encI_len .i64) rfl rfl (by decide) hl2_37)<| .cons (.assign (l1 rfl) (.t rfl))<| ARun.nil _ _ _) ?_
       refine AWP.vc (s' := ⟨[(1,rW β3 a1 eW),(2,.ptr 1 0),(6,iW (a0.Pq.length : Int)),(7,.own 2 1 0 l2_37.length),(8,iW x_35.1),(9,iW x_35.2.1),(10,iW (0 : Int)),(11,iW x_35.2.2.1)],[(2,⟨3,true,l2_37.flatMap eW⟩),(1,⟨25,false,(pW β1 β2 a0)⟩)]⟩) (VC.sub (.of rfl) (.of rfl)) ?_
       refine AWP.seq ?_
       obtain ⟨y_38,hy_38,h⟩ := bindS h
       refine AWP.rg (.cons (.loadPA (l1 rfl) (.t rfl) agg25 rfl rfl rfl rfl)<| .cons (.move (l1 rfl) (.t rfl))<| .cons (.move (l1 rfl) (.t rfl))<| .cons (.call0 (bw := false) (l1 rfl) (c51 (β1 := β1) (β2 := β2) (β3 := β3) n (R24.mk a0.Pq a0.Bq) a1 (0 : Int) x_35.2.2.1 hy_38) (.cons (.t rfl) (.ren rfl) (.cons (.t rfl) (.ren rfl) (.cons (.const _ _ _) (.ren rfl) (.cons (.t rfl) (.ren rfl) (.nil))))) rfl)<| .cons (.assign (l1 rfl) (.t rfl))<| ARun.nil _ _ _) ?_
       refine AWP.vc (s' := ⟨[(1,rW β3 a1 eW),(2,.ptr 1 0),(6,iW (a0.Pq.length : Int)),(7,.own 2 1 0 l2_37.length),(8,iW x_35.1),(9,iW x_35.2.1),(10,iW (0 : Int)),(11,iW x_35.2.2.1),(12,iW y_38)],[(2,⟨3,true,l2_37.flatMap eW⟩),(1,⟨25,false,(pW β1 β2 a0)⟩)]⟩) (VC.sub (.of rfl) (.of rfl)) ?_
       refine AWP.block ?_
       refine AWP.seq ?_
       refine AWP.rg (.cons (.move (l1 rfl) (.t rfl))<| .cons (.lss (l1 rfl) (.t rfl) (.const _ _ _))<| .cons (.assign (l1 rfl) (.t rfl))<| ARun.nil _ _ _) ?_
       refine AWP.vc (s' := ⟨[(1,rW β3 a1 eW),(2,.ptr 1 0),(6,iW (a0.Pq.length : Int)),(7,.own 2 1 0 l2_37.length),(8,iW x_35.1),(9,iW x_35.2.1),(10,iW (0 : Int)),(11,iW x_35.2.2.1),(12,iW y_38),(60,bW (decide (x_35.2.2.1 < (3 : Int))))],[(2,⟨3,true,l2_37.flatMap eW⟩),(1,⟨25,false,(pW β1 β2 a0)⟩)]⟩) (VC.sub (.of rfl) (.of rfl)) ?_
       refine AWP.join' (S := fun p_45 : Int × Int => ⟨[(1,rW β3 a1 eW),(2,.ptr 1 0),(6,iW (a0.Pq.length : Int)),(7,.own 2 1 0 l2_37.length),(8,iW p_45.1),(9,iW p_45.2),(10,iW (0 : Int)),(11,iW x_35.2.2.1)],[(1,⟨25,false,(pW β1 β2 a0)⟩),(2,⟨3,true,l2_37.flatMap eW⟩)]⟩) h (fun p_45 h => ?_) (fun k_46 h => ?_)
       ·obtain ⟨t11_47,ht11_47,h⟩ := letS h
        refine AWP.rg (.cons (.move (l1 rfl) (.t rfl))<| .cons (.add (l1 rfl) (.t rfl) (.const _ _ _))<| .cons (.assign (l1 rfl) (.t rfl))<| ARun.nil _ _ _) ?_
        exact endJ (p_45.1,p_45.2,t11_47,l2_37) h (by subst ht11_47; exact VC.sub (.of rfl) (.of rfl))
       ·refine AWP.cond (.t rfl) (fun hc => ?_) (fun hc => ?_)
        ·have h := iteT hc h
         refine AWP.skip ?_
         exact endJ (x_35.1,x_35.2.1) h (VC.sub (.of rfl) (.of rfl))
        ·have h := iteF hc h
         refine AWP.seq ?_
         obtain ⟨y_39,hy_39,h⟩ := bindS h
         refine AWP.rg (.cons (.move (l1 rfl) (.t rfl))<| .cons (.loadPA (l1 rfl) (.t rfl) agg25 rfl rfl rfl rfl)<| .cons (.move (l1 rfl) (.t rfl))<| .cons (.move (l1 rfl) (.t rfl))<| .cons (.call0 (bw := false) (l1 rfl) (c51 (β1 := β1) (β2 := β2) (β3 := β3) n (R24.mk a0.Pq a0.Bq) a1 (0 : Int) x_35.1 hy_39) (.cons (.t rfl) (.ren rfl) (.cons (.t rfl) (.ren rfl) (.cons (.const _ _ _) (.ren rfl) (.cons (.t rfl) (.ren rfl) (.nil))))) rfl)<| .cons (.lss (l1 rfl) (.t rfl) (.t rfl))<| .cons (.assign (l1 rfl) (.t rfl))<| ARun.nil _ _ _) ?_
         refine AWP.vc (s' := ⟨[(1,rW β3 a1 eW),(2,.ptr 1 0),(6,iW (a0.Pq.length : Int)),(7,.own 2 1 0 l2_37.length),(8,iW x_35.1),(9,iW x_35.2.1),(10,iW (0 : Int)),(11,iW x_35.2.2.1),(12,iW y_38),(63,bW (decide (y_38 < y_39)))],[(2,⟨3,true,l2_37.flatMap eW⟩),(1,⟨25,false,(pW β1 β2 a0)⟩)]⟩) (VC.sub (.of rfl) (.of rfl)) ?_
         refine AWP.join' (S := fun p_43 : Int × Int => ⟨[(1,rW β3 a1 eW),(2,.ptr 1 0),(6,iW (a0.Pq.length : Int)),(7,.own 2 1 0 l2_37.length),(8,iW p_43.1),(9,iW p_43.2),(10,iW (0 : Int)),(11,iW x_35.2.2.1)],[(1,⟨25,false,(pW β1 β2 a0)⟩),(2,⟨3,true,l2_37.flatMap eW⟩)]⟩) h (fun p_43 h => ?_) (fun k_44 h => ?_)
         ·exact endJ (p_43.1,p_43.2) h (VC.sub (.of rfl) (.of rfl))
         ·refine AWP.cond (.t rfl) (fun hc => ?_) (fun hc => ?_)
          ·have h := iteT hc h
           refine AWP.rg (.cons (.move (l1 rfl) (.t rfl))<| .cons (.move (l1 rfl) (.t rfl))<| .cons (.assign (l1 rfl) (.t rfl))<| .cons (.assign (l1 rfl) (.t rfl))<| ARun.nil _ _ _) ?_
           exact endJ (x_35.2.2.1,x_35.1) h (VC.sub (.of rfl) (.of rfl))
          ·have h := iteF hc h
           refine AWP.seq ?_
           obtain ⟨y_40,hy_40,h⟩ := bindS h
           refine AWP.rg (.cons (.move (l1 rfl) (.t rfl))<| .cons (.loadPA (l1 rfl) (.t rfl) agg25 rfl rfl rfl rfl)<| .cons (.move (l1 rfl) (.t rfl))<| .cons (.move (l1 rfl) (.t rfl))<| .cons (.call0 (bw := false) (l1 rfl) (c51 (β1 := β1) (β2 := β2) (β3 := β3) n (R24.mk a0.Pq a0.Bq) a1 (0 : Int) x_35.2.1 hy_40) (.cons (.t rfl) (.ren rfl) (.cons (.t rfl) (.ren rfl) (.cons (.const _ _ _) (.ren rfl) (.cons (.t rfl) (.ren rfl) (.nil))))) rfl)<| .cons (.lss (l1 rfl) (.t rfl) (.t rfl))<| .cons (.assign (l1 rfl) (.t rfl))<| ARun.nil _ _ _) ?_
           refine AWP.vc (s' := ⟨[(1,rW β3 a1 eW),(2,.ptr 1 0),(6,iW (a0.Pq.length : Int)),(7,.own 2 1 0 l2_37.length),(8,iW x_35.1),(9,iW x_35.2.1),(10,iW (0 : Int)),(11,iW x_35.2.2.1),(72,bW (decide (y_38 < y_40)))],[(2,⟨3,true,l2_37.flatMap eW⟩),(1,⟨25,false,(pW β1 β2 a0)⟩)]⟩) (VC.sub (.of rfl) (.of rfl)) ?_
           refine AWP.join' (S := fun p_41 : Int => ⟨[(1,rW β3 a1 eW),(2,.ptr 1 0),(6,iW (a0.Pq.length : Int)),(7,.own 2 1 0 l2_37.length),(8,iW x_35.1),(9,iW p_41),(10,iW (0 : Int)),(11,iW x_35.2.2.1)],[(1,⟨25,false,(pW β1 β2 a0)⟩),(2,⟨3,true,l2_37.flatMap eW⟩)]⟩) h (fun p_41 h => ?_) (fun k_42 h => ?_)
           ·exact endJ (x_35.1,p_41) h (VC.sub (.of rfl) (.of rfl))
           ·refine AWP.cond (.t rfl) (fun hc => ?_) (fun hc => ?_)
            ·have h := iteT hc h
             refine AWP.rg (.cons (.move (l1 rfl) (.t rfl))<| .cons (.assign (l1 rfl) (.t rfl))<| ARun.nil _ _ _) ?_
             exact endJ x_35.2.2.1 h (VC.sub (.of rfl) (.of rfl))
            ·have h := iteF hc h
             refine AWP.skip ?_
             exact endJ x_35.2.1 h (VC.sub (.of rfl) (.of rfl))
      ·have h := iteF hc h
       refine AWP.exit ?_
       exact endJ (x_35.1,x_35.2.1,x_35.2.2.2) h (VC.sub (.of rfl) (.of rfl))
    ·refine AWP.cond (.t rfl) (fun hc => ?_) (fun hc => ?_)
     ·have h := iteT hc h
      refine AWP.rg (.cons (.assign (l1 rfl) (.const _ _ _))<| .cons (.assign (l1 rfl) (.const _ _ _))<| ARun.nil _ _ _) ?_
      exact endJ ((2 : Int),(1 : Int)) h (VC.sub (.of rfl) (.of rfl))
     ·have h := iteF hc h
      refine AWP.skip ?_
      exact endJ ((1 : Int),(2 : Int)) h (VC.sub (.of rfl) (.of rfl))
theorem c66 {β1 : Bool} {β2 : Bool} {β3 : Bool} {β4 : Bool} (n : Nat) (a0 : R52) (a1 : (List Int)) {r : Int} (h : m66 n a0 a1 = some r) : Spec Try.prog 66 [] [.agg (gW β1 β2 β3 a0.Gq a0.Path a0.Ln),rW β4 a1 eW] [] (iW r) [] := by
 refine Spec.of (fn := Try.f66) Try.func66 Try.ntmps66 rfl rfl (le1 rfl) (fun w0 Zs Zb T0 ι0 => ?_)
 unfold m66 at h
 refine AWP.seq ?_
 refine AWP.rg (.cons (.box (t := 1) (n := 4) (l1 rfl) (nm rfl) (.t rfl) (by first | exact ⟨rfl,rfl⟩ | rfl) rfl)<| .cons (.assign (l1 rfl) (.const _ _ _))<| ARun.nil _ _ _) ?_
 refine AWP.vc (s' := ⟨[(1,rW β4 a1 eW),(2,.ptr 1 0)],[(1,⟨53,false,(gW β1 β2 β3 a0.Gq a0.Path a0.Ln)⟩)]⟩) (VC.sub (.of rfl) (.of rfl)) ?_
 refine AWP.seq ?_
 refine AWP.rg (.cons (.fieldP (l1 rfl) (.t rfl) fld53_0)<| .cons (.loadPA (l1 rfl) (.t rfl) agg25 rfl rfl rfl rfl)<| .cons (.alloc (t := 2) (k := ⟨25,false,[.sc (.slice none 0 0),.sc (.slice none 0 0)]⟩) (l1 rfl) (nm rfl) zero25 rfl rfl)<| .cons (.storePA (.t rfl) (.t rfl) sz25 rfl rfl (le1 rfl) (one_lit rfl) (by intro h; cases h) rfl)<| ARun.nil _ _ _) ?_
 refine AWP.vc (s' := ⟨[(1,rW β4 a1 eW),(2,.ptr 1 0),(5,.ptr 2 0)],[(2,⟨25,false,(pW β1 β2 a0.Gq)⟩),(1,⟨53,false,(gW β1 β2 β3 a0.Gq a0.Path a0.Ln)⟩)]⟩) (VC.sub (.of rfl) (.of rfl)) ?_
 refine AWP.seq ?_
 refine AWP.seq ?_
 refine AWP.rg (.cons (.fieldP (l1 rfl) (.t rfl) fld53_1)<| .cons (.loadP (l1 rfl) (.t rfl) one28 rfl rfl rfl)<| .cons (.lenRd (l1 rfl) (.t rfl) Try.underlying28)<| ARun.nil _ _ _) ?_
 refine AWP.vc (s' := ⟨[(1,rW β4 a1 eW),(2,.ptr 1 0),(5,.ptr 2 0),(16,iW (a0.Path.length : Int))],[(2,⟨25,false,(pW β1 β2 a0.Gq)⟩),(1,⟨53,false,(gW β1 β2 β3 a0.Gq a0.Path a0.Ln)⟩)]⟩) (VC.sub (.of rfl) (.of rfl)) ?_
 refine AWP.block ?_
 refine AWP.seq ?_
 refine AWP.rg (.cons (.fieldP (l1 rfl) (.t rfl) fld25_0)<| .cons (.loadP (l1 rfl) (.t rfl) one22 rfl rfl rfl)<| .cons (.lenRd (l1 rfl) (.t rfl) Try.underlying22)<| .cons (.eql (l1 rfl) (.t rfl) (.t rfl))<| .cons (.assign (l1 rfl) (.t rfl))<| ARun.nil _ _ _) ?_
 refine AWP.vc (s' := ⟨[(1,rW β4 a1 eW),(2,.ptr 1 0),(5,.ptr 2 0),(16,iW (a0.Path.length : Int)),(17,bW (decide ((a0.Path.length : Int) = (a0.Gq.Pq.length : Int))))],[(2,⟨25,false,(pW β1 β2 a0.Gq)⟩),(1,⟨53,false,(gW β1 β2 β3 a0.Gq a0.Path a0.Ln)⟩)]⟩) (VC.sub (.of rfl) (.of rfl)) ?_
 refine AWP.cond (.t rfl) (fun hc => ?_) (fun hc => ?_)
 ·have h := iteT hc h
  refine AWP.seq ?_
  obtain ⟨y_1,hy_1,h⟩ := bindS h
  refine AWP.rg (.cons (.loadPA (l1 rfl) (.t rfl) agg25 rfl rfl rfl rfl)<| .cons (.fieldP (l1 rfl) (.t rfl) fld53_1)<| .cons (.loadP (l1 rfl) (.t rfl) one28 rfl rfl rfl)<| .cons (.call0 (bw := false) (l1 rfl) (c20 (β1 := β1) (β2 := β2) (β3 := β3) n (R24.mk a0.Gq.Pq a0.Gq.Bq) a0.Path hy_1) (.cons (.t rfl) (.ren rfl) (.cons (.t rfl) (.ren rfl) (.nil))) rfl)<| .cons (.assign (l1 rfl) (.t rfl))<| ARun.nil _ _ _) ?_
  refine AWP.ret ?_
  obtain rfl := Option.some.inj h
  refine retJ (Res.vc (s' := ⟨[(4,iW y_1)],[]⟩) (VC.sub (.of rfl) (.n _)) ?_)
  refine Res.drop (H := []) rfl ?_
  exact Res.of rfl (.cons (.tmp rfl) (.nil)) rfl rfl
 ·have h := iteF hc h
  refine AWP.seq ?_
  refine AWP.rg (.cons (.eql (l1 rfl) (.t rfl) (.const _ _ _))<| .cons (.assign (l1 rfl) (.t rfl))<| ARun.nil _ _ _) ?_
  refine AWP.vc (s' := ⟨[(1,rW β4 a1 eW),(2,.ptr 1 0),(5,.ptr 2 0),(26,bW (decide ((a0.Path.length : Int) = (1 : Int))))],[(2,⟨25,false,(pW β1 β2 a0.Gq)⟩),(1,⟨53,false,(gW β1 β2 β3 a0.Gq a0.Path a0.Ln)⟩)]⟩) (VC.sub (.of rfl) (.of rfl)) ?_
  refine AWP.cond (.t rfl) (fun hc => ?_) (fun hc => ?_)
  ·have h := iteT hc h
   refine AWP.seq ?_
   obtain ⟨y_2,hy_2,h⟩ := bindS h
   refine AWP.rg (.cons (.loadPA (l1 rfl) (.t rfl) agg25 rfl rfl rfl rfl)<| .cons (.move (l1 rfl) (.t rfl))<| .cons (.call0 (bw := false) (l1 rfl) (c19 (β1 := β1) (β2 := β2) (β3 := β4) n (R24.mk a0.Gq.Pq a0.Gq.Bq) a1 hy_2) (.cons (.t rfl) (.ren rfl) (.cons (.t rfl) (.ren rfl) (.nil))) rfl)<| .cons (.move (l1 rfl) (.t rfl))<| .cons (.extract (l1 rfl) (.t rfl) rfl)<| .cons (.extract (l1 rfl) (.t rfl) rfl)<| .cons (.assign (l1 rfl) (.t rfl))<| .cons (.assign (l1 rfl) (.t rfl))<| ARun.nil _ _ _) ?_
   refine AWP.vc (s' := ⟨[(6,iW y_2.1)],[]⟩) (VC.sub (.of rfl) (.n _)) ?_
   refine AWP.seq ?_
   refine AWP.rg (.cons (.move (l1 rfl) (.t rfl))<| .cons (.assign (l1 rfl) (.t rfl))<| ARun.nil _ _ _) ?_
   refine AWP.ret ?_
   obtain rfl := Option.some.inj h
   refine retJ (Res.vc (s' := ⟨[(4,iW y_2.1)],[]⟩) (VC.sub (.of rfl) (.n _)) ?_)
   refine Res.drop (H := []) rfl ?_
   exact Res.of rfl (.cons (.tmp rfl) (.nil)) rfl rfl
  ·have h := iteF hc h
   refine AWP.skip ?_
   refine AWP.seq ?_
   obtain ⟨y_3,hy_3,h⟩ := bindS h
   refine AWP.rg (.cons (.fieldP (l1 rfl) (.t rfl) fld53_1)<| .cons (.loadP (l1 rfl) (.t rfl) one28 rfl rfl rfl)<| .cons (.fieldP (l1 rfl) (.t rfl) fld53_1)<| .cons (.loadP (l1 rfl) (.t rfl) one28 rfl rfl rfl)<| .cons (.lenRd (l1 rfl) (.t rfl) Try.underlying28)<| .cons (.sub (l1 rfl) (.t rfl) (.const _ _ _))<| .cons (.indexRd (enc := eW) (l1 rfl) (.t rfl) (.t rfl) Try.underlying28 sz3 (encI_len .i64) rfl hy_3)<| .cons (.loadR (v := iW y_3) (l1 rfl) (.t rfl) one3 rfl)<| .cons (.assign (l1 rfl) (.t rfl))<| ARun.nil _ _ _) ?_
   refine AWP.vc (s' := ⟨[(1,rW β4 a1 eW),(2,.ptr 1 0),(5,.ptr 2 0),(8,iW y_3)],[(2,⟨25,false,(pW β1 β2 a0.Gq)⟩),(1,⟨53,false,(gW β1 β2 β3 a0.Gq a0.Path a0.Ln)⟩)]⟩) (VC.sub (.of rfl) (.of rfl)) ?_
   refine AWP.seq ?_
   obtain ⟨l3_4,hl3_4,h⟩ := letS h
   refine AWP.rg (.cons (.move (l1 rfl) (.t rfl))<| .cons (.buildSlice (t := 3) (out := ([y_3,(0 : Int)] : List Int).flatMap eW) (l1 rfl) (nm rfl) (.cons (.t rfl) (by first | exact ⟨rfl,rfl⟩ | rfl) (.cons (.const _ _ _) (by first | exact ⟨rfl,rfl⟩ | rfl) (.nil))) Try.underlying28 zero3 el3 (by decide) (by decide) rfl (still_all (encI_still .i64) _))<| .cons (.assign (l1 rfl) (.t rfl))<| ARun.nil _ _ _) ?_
   refine AWP.vc (s' := ⟨[(1,rW β4 a1 eW),(2,.ptr 1 0),(5,.ptr 2 0),(8,iW y_3),(9,.own 3 1 0 l3_4.length)],[(3,⟨3,true,l3_4.flatMap eW⟩),(2,⟨25,false,(pW β1 β2 a0.Gq)⟩),(1,⟨53,false,(gW β1 β2 β3 a0.Gq a0.Path a0.Ln)⟩)]⟩) (by subst hl3_4; exact VC.sub (.of rfl) (.of rfl)) ?_
   refine AWP.seq ?_
   obtain ⟨y_5,hy_5,h⟩ := bindS h
   obtain ⟨y_6,hy_6,h⟩ := bindS h
   obtain ⟨t10_7,ht10_7,h⟩ := letS h
   refine AWP.draw (s' := ⟨[(1,rW β4 a1 eW),(2,.ptr 1 0),(5,.ptr 2 0),(9,.own 3 1 0 l3_4.length),(10,iW (IntKind.wrap .i64 (y_5 + y_6)))],[(3,⟨3,true,l3_4.flatMap eW⟩),(2,⟨25,false,(pW β1 β2 a0.Gq)⟩),(1,⟨53,false,(gW β1 β2 β3 a0.Gq a0.Path a0.Ln)⟩)]⟩) mixed [⟨1,rW β4 a1 eW,none,[]⟩,⟨2,.ptr 1 0,none,[]⟩,⟨5,.ptr 2 0,none,[]⟩,⟨8,iW y_3,none,[]⟩,⟨9,.own 3 1 0 l3_4.length,none,[]⟩,⟨45,rW β4 a1 eW,some 0,[]⟩,⟨46,iW y_3,some 1,[]⟩,⟨47,.rptr β4 [iW y_5],some 2,[]⟩,⟨48,iW y_5,some 3,[]⟩,⟨49,rW β4 a1 eW,some 4,[]⟩,⟨50,.rptr β4 [iW y_6],some 5,[]⟩,⟨51,iW y_6,some 6,[]⟩,⟨52,iW (IntKind.wrap .i64 (y_5 + y_6)),some 7,[]⟩,⟨10,iW (IntKind.wrap .i64 (y_5 + y_6)),some 8,[]⟩] [⟨[0],0,0,some (45,rW β4 a1 eW),[]⟩,⟨[3],0,0,some (46,iW y_3),[]⟩,⟨[5,6],0,0,some (47,.rptr β4 [iW y_5]),[]⟩,⟨[7],0,0,some (48,iW y_5),[]⟩,⟨[0],0,0,some (49,rW β4 a1 eW),[]⟩,⟨[9],0,0,some (50,.rptr β4 [iW y_6]),[]⟩,⟨[10],0,0,some (51,iW y_6),[]⟩,⟨[8,11],0,0,some (52,iW (IntKind.wrap .i64 (y_5 + y_6))),[]⟩,⟨[12],0,0,some (10,iW (IntKind.wrap .i64 (y_5 + y_6))),[]⟩] [] [[(3,⟨3,true,l3_4.flatMap eW⟩),(2,⟨25,false,(pW β1 β2 a0.Gq)⟩),(1,⟨53,false,(gW β1 β2 β3 a0.Gq a0.Path a0.Ln)⟩)]] [[],[],[0,1],[0,1,2],[],[4],[4,5],[0,1,2,3,4,5,6],[0,1,2,3,4,5,6,7]] (by kernel_rfl) (by kernel_rfl) (BornL.ok (.o<| .o<| .o<| .o<| .o<| .b rfl rfl<| .b rfl rfl<| .b rfl rfl<| .b rfl rfl<| .b rfl rfl<| .b rfl rfl<| .b rfl rfl<| .b rfl rfl<| .b rfl rfl<| .n)) (BaseL.ok (.o rfl<| .o rfl<| .o rfl<| .o rfl<| .o rfl<| .b<| .b<| .b<| .b<| .b<| .b<| .b<| .b<| .b<| .n)) rfl (by decide) (allLt rfl) (.pure rfl (fun H => .put (fun E hE => .move (l1 rfl) (.tmp (hE.at (k := 0) rfl))))<| .pure rfl (fun H => .put (fun E hE => .move (l1 rfl) (.tmp (hE.at (k := 0) rfl))))<| .pure rfl (fun H => .put (fun E hE => .indexRd (enc := eW) (l1 rfl) (.tmp (hE.at (k := 0) rfl)) (.tmp (hE.at (k := 1) rfl)) Try.underlying28 sz3 (encI_len .i64) rfl hy_5))<| .pure rfl (fun H => .put (fun E hE => .loadR (v := iW y_5) (l1 rfl) (.tmp (hE.at (k := 0) rfl)) one3 rfl))<| .pure rfl (fun H => .put (fun E hE => .move (l1 rfl) (.tmp (hE.at (k := 0) rfl))))<| .pure rfl (fun H => .put (fun E hE => .indexRd (enc := eW) (l1 rfl) (.tmp (hE.at (k := 0) rfl)) (.const _ _ _) Try.underlying28 sz3 (encI_len .i64) rfl hy_6))<| .pure rfl (fun H => .put (fun E hE => .loadR (v := iW y_6) (l1 rfl) (.tmp (hE.at (k := 0) rfl)) one3 rfl))<| .pure rfl (fun H => .put (fun E hE => .add (l1 rfl) (.tmp (hE.at (k := 0) rfl)) (.tmp (hE.at (k := 1) rfl))))<| .pure rfl (fun H => .put (fun E hE => .assign (l1 rfl) (.tmp (hE.at (k := 0) rfl))))<| .nil _) (fun E hE => .c (DInv.at hE (k := 0) rfl rfl rfl)<| .c (DInv.at hE (k := 1) rfl rfl rfl)<| .c (DInv.at hE (k := 2) rfl rfl rfl)<| .c (DInv.at hE (k := 4) rfl rfl rfl)<| .c (DInv.at hE (k := 13) rfl rfl rfl)<| .n _) rfl ?_
   refine AWP.vc (s' := ⟨[(1,rW β4 a1 eW),(2,.ptr 1 0),(5,.ptr 2 0),(9,.own 3 1 0 l3_4.length),(10,iW t10_7)],[(3,⟨3,true,l3_4.flatMap eW⟩),(2,⟨25,false,(pW β1 β2 a0.Gq)⟩),(1,⟨53,false,(gW β1 β2 β3 a0.Gq a0.Path a0.Ln)⟩)]⟩) (by subst ht10_7; exact VC.sub (.of rfl) (.of rfl)) ?_
   refine AWP.seq ?_
   refine AWP.seq ?_
   refine AWP.rg (.cons (.assign (l1 rfl) (.const _ _ _))<| ARun.nil _ _ _) ?_
   refine AWP.vc (s' := ⟨[(1,rW β4 a1 eW),(2,.ptr 1 0),(5,.ptr 2 0),(9,.own 3 1 0 l3_4.length),(10,iW t10_7),(11,iW (0 : Int))],[(3,⟨3,true,l3_4.flatMap eW⟩),(2,⟨25,false,(pW β1 β2 a0.Gq)⟩),(1,⟨53,false,(gW β1 β2 β3 a0.Gq a0.Path a0.Ln)⟩)]⟩) (VC.sub (.of rfl) (.of rfl)) ?_
   refine AWP.joinB' (S := fun p_33 : Int × (List Int) => ⟨[(1,rW β4 a1 eW),(2,.ptr 1 0),(5,.ptr 2 0),(9,.own 3 1 0 p_33.2.length),(10,iW p_33.1)],[(1,⟨53,false,(gW β1 β2 β3 a0.Gq a0.Path a0.Ln)⟩),(2,⟨25,false,(pW β1 β2 a0.Gq)⟩),(3,⟨3,true,p_33.2.flatMap eW⟩)]⟩) h (fun p_33 h => ?_) (fun k_34 h => ?_)
   ·refine AWP.seq ?_
    obtain ⟨y_35,hy_35,h⟩ := bindS h
    obtain ⟨y_36,hy_36,h⟩ := bindS h
    obtain ⟨t4_37,ht4_37,h⟩ := letS h
    refine AWP.draw (s' := ⟨[(4,iW (IntKind.wrap .i64 ((IntKind.wrap .i64 (y_35 + y_36)) - p_33.1)))],[(1,⟨53,false,(gW β1 β2 β3 a0.Gq a0.Path a0.Ln)⟩),(2,⟨25,false,(pW β1 β2 a0.Gq)⟩),(3,⟨3,true,p_33.2.flatMap eW⟩)]⟩) mixed [⟨1,rW β4 a1 eW,none,[]⟩,⟨2,.ptr 1 0,none,[]⟩,⟨5,.ptr 2 0,none,[]⟩,⟨9,.own 3 1 0 p_33.2.length,none,[]⟩,⟨10,iW p_33.1,none,[]⟩,⟨76,.agg (pW β1 β2 a0.Gq),some 0,[]⟩,⟨77,.ptr 1 (0 + 2),some 1,[]⟩,⟨78,rW β3 a0.Path eW,some 2,[]⟩,⟨79,iW y_35,some 3,[]⟩,⟨80,.agg (pW β1 β2 a0.Gq),some 4,[]⟩,⟨81,rW β4 a1 eW,some 5,[]⟩,⟨82,.own 3 1 0 p_33.2.length,some 6,[]⟩,⟨83,iW y_36,some 7,[]⟩,⟨84,iW (IntKind.wrap .i64 (y_35 + y_36)),some 8,[]⟩,⟨85,iW p_33.1,some 9,[]⟩,⟨86,iW (IntKind.wrap .i64 ((IntKind.wrap .i64 (y_35 + y_36)) - p_33.1)),some 10,[]⟩,⟨4,iW (IntKind.wrap .i64 ((IntKind.wrap .i64 (y_35 + y_36)) - p_33.1)),some 11,[]⟩] [⟨[2],0,0,some (76,.agg (pW β1 β2 a0.Gq)),[]⟩,⟨[1],0,0,some (77,.ptr 1 (0 + 2)),[]⟩,⟨[6],0,0,some (78,rW β3 a0.Path eW),[]⟩,⟨[5,7],0,0,some (79,iW y_35),[]⟩,⟨[2],0,0,some (80,.agg (pW β1 β2 a0.Gq)),[]⟩,⟨[0],0,0,some (81,rW β4 a1 eW),[]⟩,⟨[3],0,0,some (82,.own 3 1 0 p_33.2.length),[]⟩,⟨[9,10,11],0,0,some (83,iW y_36),[]⟩,⟨[8,12],0,0,some (84,iW (IntKind.wrap .i64 (y_35 + y_36))),[]⟩,⟨[4],0,0,some (85,iW p_33.1),[]⟩,⟨[13,14],0,0,some (86,iW (IntKind.wrap .i64 ((IntKind.wrap .i64 (y_35 + y_36)) - p_33.1))),[]⟩,⟨[15],0,0,some (4,iW (IntKind.wrap .i64 ((IntKind.wrap .i64 (y_35 + y_36)) - p_33.1))),[]⟩] [] [[(1,⟨53,false,(gW β1 β2 β3 a0.Gq a0.Path a0.Ln)⟩),(2,⟨25,false,(pW β1 β2 a0.Gq)⟩),(3,⟨3,true,p_33.2.flatMap eW⟩)]] [[],[],[1],[0,1,2],[],[],[],[0,1,2,3,4,5,6],[0,1,2,3,4,5,6,7],[],[0,1,2,3,4,5,6,7,8,9],[0,1,2,3,4,5,6,7,8,9,10]] (by kernel_rfl) (by kernel_rfl) (BornL.ok (.o<| .o<| .o<| .o<| .o<| .b rfl rfl<| .b rfl rfl<| .b rfl rfl<| .b rfl rfl<| .b rfl rfl<| .b rfl rfl<| .b rfl rfl<| .b rfl rfl<| .b rfl rfl<| .b rfl rfl<| .b rfl rfl<| .b rfl rfl<| .n)) (BaseL.ok (.o rfl<| .o rfl<| .o rfl<| .o rfl<| .o rfl<| .b<| .b<| .b<| .b<| .b<| .b<| .b<| .b<| .b<| .b<| .b<| .b<| .n)) rfl (by decide) (allLt rfl) (.read rfl (.c (.put (fun E hE => .loadPA (l1 rfl) (.tmp (hE.at (k := 0) rfl)) agg25 rfl rfl rfl rfl)) .n)<| .read rfl (.c (.put (fun E hE => .fieldP (l1 rfl) (.tmp (hE.at (k := 0) rfl)) fld53_1)) .n)<| .read rfl (.c (.put (fun E hE => .loadP (l1 rfl) (.tmp (hE.at (k := 0) rfl)) one28 rfl rfl rfl)) .n)<| .pure rfl (fun H => .put (fun E hE => .call0 (bw := false) (l1 rfl) (c53 (β1 := β1) (β2 := β2) (β3 := β3) n (R24.mk a0.Gq.Pq a0.Gq.Bq) a0.Path hy_35) (.cons (.tmp (hE.at (k := 0) rfl)) (.ren rfl) (.cons (.tmp (hE.at (k := 1) rfl)) (.ren rfl) (.nil))) rfl))<| .read rfl (.c (.put (fun E hE => .loadPA (l1 rfl) (.tmp (hE.at (k := 0) rfl)) agg25 rfl rfl rfl rfl)) .n)<| .pure rfl (fun H => .put (fun E hE => .move (l1 rfl) (.tmp (hE.at (k := 0) rfl))))<| .read rfl (.c (.put (fun E hE => .move (l1 rfl) (.tmp (hE.at (k := 0) rfl)))) .n)<| .read rfl (.c (.put (fun E hE => .call0 (bw := true) (l1 rfl) (c52 (β1 := β1) (β2 := β2) (β3 := β4) (β4 := true) n (R24.mk a0.Gq.Pq a0.Gq.Bq) a1 p_33.2 hy_36) (.cons (.tmp (hE.at (k := 0) rfl)) (.ren rfl) (.cons (.tmp (hE.at (k := 1) rfl)) (.ren rfl) (.cons (.tmp (hE.at (k := 2) rfl)) (.lendRow rfl rfl (encI_len .i64) rfl) (.nil)))) rfl)) .n)<| .pure rfl (fun H => .put (fun E hE => .add (l1 rfl) (.tmp (hE.at (k := 0) rfl)) (.tmp (hE.at (k := 1) rfl))))<| .pure rfl (fun H => .put (fun E hE => .move (l1 rfl) (.tmp (hE.at (k := 0) rfl))))<| .pure rfl (fun H => .put (fun E hE => .sub (l1 rfl) (.tmp (hE.at (k := 0) rfl)) (.tmp (hE.at (k := 1) rfl))))<| .pure rfl (fun H => .put (fun E hE => .assign (l1 rfl) (.tmp (hE.at (k := 0) rfl))))<| .nil _) (fun E hE => .c (DInv.at hE (k := 16) rfl rfl rfl)<| .n _) rfl ?_
    refine AWP.ret ?_
    obtain rfl := Option.some.inj h
    refine retJ (Res.vc (s' := ⟨[(4,iW t4_37)],[]⟩) (by subst ht4_37; exact VC.sub (.of rfl) (.n _)) ?_)
    refine Res.drop (H := []) rfl ?_
    exact Res.of rfl (.cons (.tmp rfl) (.nil)) rfl rfl
   ·refine AWP.vc (s' := ⟨[(1,rW β4 a1 eW),(2,.ptr 1 0),(5,.ptr 2 0),(9,.own 3 1 0 l3_4.length),(10,iW t10_7),(11,iW (0 : Int))],[(1,⟨53,false,(gW β1 β2 β3 a0.Gq a0.Path a0.Ln)⟩),(2,⟨25,false,(pW β1 β2 a0.Gq)⟩),(3,⟨3,true,l3_4.flatMap eW⟩)]⟩) (VC.sub (.of rfl) (.of rfl)) ?_
    refine AWP.loopM (S := fun x_24 : Int × Int × (List Int) => ⟨[(1,rW β4 a1 eW),(2,.ptr 1 0),(5,.ptr 2 0),(9,.own 3 1 0 x_24.2.2.length),(10,iW x_24.1),(11,iW x_24.2.1)],[(1,⟨53,false,(gW β1 β2 β3 a0.Gq a0.Path a0.Ln)⟩),(2,⟨25,false,(pW β1 β2 a0.Gq)⟩),(3,⟨3,true,x_24.2.2.flatMap eW⟩)]⟩) (x := (t10_7,(0 : Int),l3_4)) (fun nx_25 x_24 h => ?_) h
    unfold m66_L1 at h
    refine AWP.seq ?_
    refine AWP.seq ?_
    refine AWP.rg (.cons (.move (l1 rfl) (.t rfl))<| .cons (.fieldP (l1 rfl) (.t rfl) fld25_0)<| .cons (.loadP (l1 rfl) (.t rfl) one22 rfl rfl rfl)<| .cons (.lenRd (l1 rfl) (.t rfl) Try.underlying22)<| .cons (.lss (l1 rfl) (.t rfl) (.t rfl))<| ARun.nil _ _ _) ?_
    refine AWP.vc (s' := ⟨[(1,rW β4 a1 eW),(2,.ptr 1 0),(5,.ptr 2 0),(9,.own 3 1 0 x_24.2.2.length),(10,iW x_24.1),(11,iW x_24.2.1),(57,bW (decide (x_24.2.1 < (a0.Gq.Pq.length : Int))))],[(1,⟨53,false,(gW β1 β2 β3 a0.Gq a0.Path a0.Ln)⟩),(2,⟨25,false,(pW β1 β2 a0.Gq)⟩),(3,⟨3,true,x_24.2.2.flatMap eW⟩)]⟩) (VC.sub (.of rfl) (.of rfl)) ?_
    refine AWP.cond (.t rfl) (fun hc => ?_) (fun hc => ?_)
    ·have h := iteT hc h
     refine AWP.skip ?_
     refine AWP.seq ?_
     refine AWP.block ?_
     refine AWP.seq ?_
     obtain ⟨y_26,hy_26,h⟩ := bindS h
     refine AWP.rg (.cons (.fieldP (l1 rfl) (.t rfl) fld53_1)<| .cons (.loadP (l1 rfl) (.t rfl) one28 rfl rfl rfl)<| .cons (.move (l1 rfl) (.t rfl))<| .cons (.call0 (bw := false) (l1 rfl) (c73 (β1 := β3) n a0.Path x_24.2.1 hy_26) (.cons (.t rfl) (.ren rfl) (.cons (.t rfl) (.ren rfl) (.nil))) rfl)<| .cons (.not (l1 rfl) (.t rfl))<| ARun.nil _ _ _) ?_
     refine AWP.vc (s' := ⟨[(1,rW β4 a1 eW),(2,.ptr 1 0),(5,.ptr 2 0),(9,.own 3 1 0 x_24.2.2.length),(10,iW x_24.1),(11,iW x_24.2.1),(64,bW (!y_26))],[(1,⟨53,false,(gW β1 β2 β3 a0.Gq a0.Path a0.Ln)⟩),(2,⟨25,false,(pW β1 β2 a0.Gq)⟩),(3,⟨3,true,x_24.2.2.flatMap eW⟩)]⟩) (VC.sub (.of rfl) (.of rfl)) ?_
     refine AWP.join' (S := fun p_30 : Int × (List Int) => ⟨[(1,rW β4 a1 eW),(2,.ptr 1 0),(5,.ptr 2 0),(9,.own 3 1 0 p_30.2.length),(10,iW p_30.1),(11,iW x_24.2.1)],[(1,⟨53,false,(gW β1 β2 β3 a0.Gq a0.Path a0.Ln)⟩),(2,⟨25,false,(pW β1 β2 a0.Gq)⟩),(3,⟨3,true,p_30.2.flatMap eW⟩)]⟩) h (fun p_30 h => ?_) (fun k_31 h => ?_)
     ·obtain ⟨t11_32,ht11_32,h⟩ := letS h
      refine AWP.rg (.cons (.move (l1 rfl) (.t rfl))<| .cons (.add (l1 rfl) (.t rfl) (.const _ _ _))<| .cons (.assign (l1 rfl) (.t rfl))<| ARun.nil _ _ _) ?_
      exact endJ (p_30.1,t11_32,p_30.2) h (by subst ht11_32; exact VC.sub (.of rfl) (.of rfl))
     ·refine AWP.cond (.t rfl) (fun hc => ?_) (fun hc => ?_)
      ·have h := iteT hc h
       refine AWP.seq ?_
       obtain ⟨l3_27,hl3_27,h⟩ := bindS h
       refine AWP.rg (.cons (.move (l1 rfl) (.t rfl))<| .cons (.move (l1 rfl) (.t rfl))<| .cons (.buildSlice (t := 4) (out := ([x_24.2.1] : List Int).flatMap eW) (l1 rfl) (nm rfl) (.cons (.t rfl) (by first | exact ⟨rfl,rfl⟩ | rfl) (.nil)) Try.underlying28 zero3 el3 (by decide) (by decide) rfl (still_all (encI_still .i64) _))<| .cons (.app (enc := eW) (l1 rfl) (nm rfl) (.t rfl) (Src.own (.t rfl) rfl (lendAll (encI_len .i64) _) (flatMap_length (encI_len .i64) _) (one_all (encI_one .i64) _) (.inl rfl)) Try.underlying28 ⟨_,Try.underlying28,by intro k hk; cases hk⟩ el3 rfl (encI_len .i64) rfl rfl (by decide) hl3_27)<| .cons (.assign (l1 rfl) (.t rfl))<| ARun.nil _ _ _) ?_
       refine AWP.vc (s' := ⟨[(1,rW β4 a1 eW),(2,.ptr 1 0),(5,.ptr 2 0),(9,.own 3 1 0 l3_27.length),(10,iW x_24.1),(11,iW x_24.2.1)],[(3,⟨3,true,l3_27.flatMap eW⟩),(1,⟨53,false,(gW β1 β2 β3 a0.Gq a0.Path a0.Ln)⟩),(2,⟨25,false,(pW β1 β2 a0.Gq)⟩)]⟩) (VC.sub (.of rfl) (.of rfl)) ?_
       obtain ⟨y_28,hy_28,h⟩ := bindS h
       obtain ⟨t10_29,ht10_29,h⟩ := letS h
       refine AWP.rg (.cons (.move (l1 rfl) (.t rfl))<| .cons (.move (l1 rfl) (.t rfl))<| .cons (.move (l1 rfl) (.t rfl))<| .cons (.indexRd (enc := eW) (l1 rfl) (.t rfl) (.t rfl) Try.underlying28 sz3 (encI_len .i64) rfl hy_28)<| .cons (.loadR (v := iW y_28) (l1 rfl) (.t rfl) one3 rfl)<| .cons (.mul (l1 rfl) (.const _ _ _) (.t rfl))<| .cons (.add (l1 rfl) (.t rfl) (.t rfl))<| .cons (.assign (l1 rfl) (.t rfl))<| ARun.nil _ _ _) ?_
       exact endJ (t10_29,l3_27) h (by subst ht10_29; exact VC.sub (.of rfl) (.of rfl))
      ·have h := iteF hc h
       refine AWP.skip ?_
       exact endJ (x_24.1,x_24.2.2) h (VC.sub (.of rfl) (.of rfl))
    ·have h := iteF hc h
     refine AWP.exit ?_
     exact endJ (x_24.1,x_24.2.2) h (VC.sub (.of rfl) (.of rfl))
theorem c28 {β1 : Bool} {β2 : Bool} {β3 : Bool} {β4 : Bool} (n : Nat) (a0 : R52) (a1 : (List Int)) {r : Bool} (h : m28 n a0 a1 = some r) : Spec Try.prog 28 [] [.agg (gW β1 β2 β3 a0.Gq a0.Path a0.Ln),rW β4 a1 eW] [] (bW r) [] := by
 refine Spec.of (fn := Try.f28) Try.func28 Try.ntmps28 rfl rfl (le1 rfl) (fun w0 Zs Zb T0 ι0 => ?_)
 unfold m28 at h
 refine AWP.seq ?_
 refine AWP.rg (.cons (.box (t := 1) (n := 4) (l1 rfl) (nm rfl) (.t rfl) (by first | exact ⟨rfl,rfl⟩ | rfl) rfl)<| .cons (.assign (l1 rfl) (.const _ _ _))<| ARun.nil _ _ _) ?_
 refine AWP.vc (s' := ⟨[(1,rW β4 a1 eW),(2,.ptr 1 0)],[(1,⟨53,false,(gW β1 β2 β3 a0.Gq a0.Path a0.Ln)⟩)]⟩) (VC.sub (.of rfl) (.of rfl)) ?_
 refine AWP.seq ?_
 obtain ⟨y_1,hy_1,h⟩ := bindS h
 obtain ⟨y_2,hy_2,h⟩ := bindS h
 obtain ⟨y_3,hy_3,h⟩ := bindS h
 refine AWP.draw (s' := ⟨[(4,bW ((y_1 && y_2) && (decide (a0.Ln ≤ y_3))))],[(1,⟨53,false,(gW β1 β2 β3 a0.Gq a0.Path a0.Ln)⟩)]⟩) mixed [⟨1,rW β4 a1 eW,none,[]⟩,⟨2,.ptr 1 0,none,[]⟩,⟨5,.agg (gW β1 β2 β3 a0.Gq a0.Path a0.Ln),some 0,[]⟩,⟨6,bW y_1,some 1,[]⟩,⟨7,bW y_1,some 2,[]⟩,⟨8,.gd y_1 (.ptr 1 (0 + 0)),some 3,[]⟩,⟨9,.gd y_1 (.agg (pW β1 β2 a0.Gq)),some 4,[]⟩,⟨10,.gd y_1 (rW β4 a1 eW),some 5,[]⟩,⟨11,.gd y_1 (bW y_2),some 6,[]⟩,⟨12,bW (y_1 && y_2),some 7,[]⟩,⟨13,bW (y_1 && y_2),some 8,[]⟩,⟨14,.gd (y_1 && y_2) (.ptr 1 (0 + 3)),some 9,[]⟩,⟨15,.gd (y_1 && y_2) (iW a0.Ln),some 10,[]⟩,⟨16,.gd (y_1 && y_2) (.agg (gW β1 β2 β3 a0.Gq a0.Path a0.Ln)),some 11,[]⟩,⟨17,.gd (y_1 && y_2) (rW β4 a1 eW),some 12,[]⟩,⟨18,.gd (y_1 && y_2) (iW y_3),some 13,[]⟩,⟨19,.gd (y_1 && y_2) (bW (decide (a0.Ln ≤ y_3))),some 14,[]⟩,⟨20,bW ((y_1 && y_2) && (decide (a0.Ln ≤ y_3))),some 15,[]⟩,⟨4,bW ((y_1 && y_2) && (decide (a0.Ln ≤ y_3))),some 16,[]⟩] [⟨[1],0,0,some (5,.agg (gW β1 β2 β3 a0.Gq a0.Path a0.Ln)),[]⟩,⟨[2],0,0,some (6,bW y_1),[]⟩,⟨[3],0,0,some (7,bW y_1),[]⟩,⟨[4,1],0,0,some (8,.gd y_1 (.ptr 1 (0 + 0))),[]⟩,⟨[4,5],0,0,some (9,.gd y_1 (.agg (pW β1 β2 a0.Gq))),[]⟩,⟨[4,0],0,0,some (10,.gd y_1 (rW β4 a1 eW)),[]⟩,⟨[4,6,7],0,0,some (11,.gd y_1 (bW y_2)),[]⟩,⟨[4,8],0,0,some (12,bW (y_1 && y_2)),[]⟩,⟨[9],0,0,some (13,bW (y_1 && y_2)),[]⟩,⟨[10,1],0,0,some (14,.gd (y_1 && y_2) (.ptr 1 (0 + 3))),[]⟩,⟨[10,11],0,0,some (15,.gd (y_1 && y_2) (iW a0.Ln)),[]⟩,⟨[10,1],0,0,some (16,.gd (y_1 && y_2) (.agg (gW β1 β2 β3 a0.Gq a0.Path a0.Ln))),[]⟩,⟨[10,0],0,0,some (17,.gd (y_1 && y_2) (rW β4 a1 eW)),[]⟩,⟨[10,13,14],0,0,some (18,.gd (y_1 && y_2) (iW y_3)),[]⟩,⟨[10,12,15],0,0,some (19,.gd (y_1 && y_2) (bW (decide (a0.Ln ≤ y_3)))),[]⟩,⟨[10,16],0,0,some (20,bW ((y_1 && y_2) && (decide (a0.Ln ≤ y_3)))),[]⟩,⟨[17],0,0,some (4,bW ((y_1 && y_2) && (decide (a0.Ln ≤ y_3)))),[]⟩] [] [[(1,⟨53,false,(gW β1 β2 β3 a0.Gq a0.Path a0.Ln)⟩)]] [[],[0],[0,1],[0,1,2],[0,1,2,3],[0,1,2],[0,1,2,3,4,5],[0,1,2,3,4,5,6],[0,1,2,3,4,5,6,7],[0,1,2,3,4,5,6,7,8],[0,1,2,3,4,5,6,7,8,9],[0,1,2,3,4,5,6,7,8],[0,1,2,3,4,5,6,7,8],[0,1,2,3,4,5,6,7,8,11,12],[0,1,2,3,4,5,6,7,8,9,10,11,12,13],[0,1,2,3,4,5,6,7,8,9,10,11,12,13,14],[0,1,2,3,4,5,6,7,8,9,10,11,12,13,14,15]] (by kernel_rfl) (by kernel_rfl) (BornL.ok (.o<| .o<| .b rfl rfl<| .b rfl rfl<| .b rfl rfl<| .b rfl rfl<| .b rfl rfl<| .b rfl rfl<| .b rfl rfl<| .b rfl rfl<| .b rfl rfl<| .b rfl rfl<| .b rfl rfl<| .b rfl rfl<| .b rfl rfl<| .b rfl rfl<| .b rfl rfl<| .b rfl rfl<| .b rfl rfl<| .n)) (BaseL.ok (.o rfl<| .o rfl<| .b<| .b<| .b<| .b<| .b<| .b<| .b<| .b<| .b<| .b<| .b<| .b<| .b<| .b<| .b<| .b<| .b<| .n)) rfl (by decide) (allLt rfl) (.read rfl (.c (.put (fun E hE => .loadPA (l1 rfl) (.tmp (hE.at (k := 0) rfl)) agg53 rfl rfl rfl rfl)) .n)<| .pure rfl (fun H => .put (fun E hE => .call0 (bw := false) (l1 rfl) (c64 (β1 := β1) (β2 := β2) (β3 := β3) n (R52.mk (R24.mk a0.Gq.Pq a0.Gq.Bq) a0.Path a0.Ln) hy_1) (.cons (.tmp (hE.at (k := 0) rfl)) (.ren rfl) (.nil)) rfl))<| .pure rfl (fun H => .put (fun E hE => .move (l1 rfl) (.tmp (hE.at (k := 0) rfl))))<| .read rfl (.c (.gput (b := y_1) (want := true) (j := 2) (dj := 7) rfl (l1 rfl) (l1 rfl) (fun E hE => hE.at (k := 0) rfl) (fun hg E hE => .fieldP (l1 rfl) (.tmp (hE.at (k := 1) rfl)) fld53_0)) .n)<| .read rfl (.c (.gput (b := y_1) (want := true) (j := 2) (dj := 7) rfl (l1 rfl) (l1 rfl) (fun E hE => hE.at (k := 0) rfl) (fun hg E hE => .loadPA (l1 rfl) (.gd hg (.tmp (hE.at (k := 1) rfl))) agg25 rfl rfl rfl rfl)) .n)<| .pure rfl (fun H => .gput (b := y_1) (want := true) (j := 2) (dj := 7) rfl (l1 rfl) (l1 rfl) (fun E hE => hE.at (k := 0) rfl) (fun hg E hE => .move (l1 rfl) (.tmp (hE.at (k := 1) rfl))))<| .pure rfl (fun H => .gput (b := y_1) (want := true) (j := 2) (dj := 7) rfl (l1 rfl) (l1 rfl) (fun E hE => hE.at (k := 0) rfl) (fun hg E hE => .call0 (bw := false) (l1 rfl) (c50 (β1 := β1) (β2 := β2) (β3 := β4) n (R24.mk a0.Gq.Pq a0.Gq.Bq) a1 (gdB hy_2 hg)) (.cons (.gd hg (.tmp (hE.at (k := 1) rfl))) (.ren rfl) (.cons (.gd hg (.tmp (hE.at (k := 2) rfl))) (.ren rfl) (.nil))) rfl))<| .pure rfl (fun H => .put (fun E hE => .pickAnd (l1 rfl) (.tmp (hE.at (k := 0) rfl)) (.tmp (hE.at (k := 1) rfl)) (.const _ _ _)))<| .pure rfl (fun H => .put (fun E hE => .move (l1 rfl) (.tmp (hE.at (k := 0) rfl))))<| .read rfl (.c (.gput (b := (y_1 && y_2)) (want := true) (j := 8) (dj := 13) rfl (l1 rfl) (l1 rfl) (fun E hE => hE.at (k := 0) rfl) (fun hg E hE => .fieldP (l1 rfl) (.tmp (hE.at (k := 1) rfl)) fld53_2)) .n)<| .read rfl (.c (.gput (b := (y_1 && y_2)) (want := true) (j := 8) (dj := 13) rfl (l1 rfl) (l1 rfl) (fun E hE => hE.at (k := 0) rfl) (fun hg E hE => .loadP (l1 rfl) (.gd hg (.tmp (hE.at (k := 1) rfl))) one3 rfl rfl rfl)) .n)<| .read rfl (.c (.gput (b := (y_1 && y_2)) (want := true) (j := 8) (dj := 13) rfl (l1 rfl) (l1 rfl) (fun E hE => hE.at (k := 0) rfl) (fun hg E hE => .loadPA (l1 rfl) (.tmp (hE.at (k := 1) rfl)) agg53 rfl rfl rfl rfl)) .n)<| .pure rfl (fun H => .gput (b := (y_1 && y_2)) (want := true) (j := 8) (dj := 13) rfl (l1 rfl) (l1 rfl) (fun E hE => hE.at (k := 0) rfl) (fun hg E hE => .move (l1 rfl) (.tmp (hE.at (k := 1) rfl))))<| .pure rfl (fun H => .gput (b := (y_1 && y_2)) (want := true) (j := 8) (dj := 13) rfl (l1 rfl) (l1 rfl) (fun E hE => hE.at (k := 0) rfl) (fun hg E hE => .call0 (bw := false) (l1 rfl) (c66 (β1 := β1) (β2 := β2) (β3 := β3) (β4 := β4) n (R52.mk (R24.mk a0.Gq.Pq a0.Gq.Bq) a0.Path a0.Ln) a1 (gdB hy_3 hg)) (.cons (.gd hg (.tmp (hE.at (k := 1) rfl))) (.ren rfl) (.cons (.gd hg (.tmp (hE.at (k := 2) rfl))) (.ren rfl) (.nil))) rfl))<| .pure rfl (fun H => .gput (b := (y_1 && y_2)) (want := true) (j := 8) (dj := 13) rfl (l1 rfl) (l1 rfl) (fun E hE => hE.at (k := 0) rfl) (fun hg E hE => .leq (l1 rfl) (.gd hg (.tmp (hE.at (k := 1) rfl))) (.gd hg (.tmp (hE.at (k := 2) rfl)))))<| .pure rfl (fun H => .put (fun E hE => .pickAnd (l1 rfl) (.tmp (hE.at (k := 0) rfl)) (.tmp (hE.at (k := 1) rfl)) (.const _ _ _)))<| .pure rfl (fun H => .put (fun E hE => .assign (l1 rfl) (.tmp (hE.at (k := 0) rfl))))<| .nil _) (fun E hE => .c (DInv.at hE (k := 18) rfl rfl rfl)<| .n _) rfl ?_
 refine AWP.ret ?_
 obtain rfl := Option.some.inj h
 refine retJ (Res.vc (s' := ⟨[(4,bW ((y_1 && y_2) && (decide (a0.Ln ≤ y_3))))],[]⟩) (VC.sub (.of rfl) (.n _)) ?_)
 refine Res.drop (H := []) rfl ?_
 exact Res.of rfl (.cons (.tmp rfl) (.nil)) rfl rfl
end Go.AB
