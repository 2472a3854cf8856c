import Derived.Test.YtiginjokbkemcaaGreatProg
import Derived.Test.YtiginjokbkemcaaGreatF3b
import Derived.KernelRfl
set_option linter.unusedVariables false
set_option maxRecDepth 20000
namespace Go.AB
open Go Go.Proofs
theorem c104 {β1 : Bool} {β2 : Bool} {β3 : Bool} {β4 : Bool} (n : Nat) (a0 : R24) (a1 : (List Int)) (a2 : (List Int)) {r : Int} (h : m104 n a0 a1 a2 = some r) : Spec Tryz.prog 104 [] [.agg (pW β1 β2 a0),rW β3 a1 eW,rW β4 a2 eW] [] (iW r) [] := by
 refine Spec.of (fn := Tryz.f104) Tryz.func104 Tryz.ntmps104 rfl rfl (le1 rfl) (fun w0 Zs Zb T0 ι0 => ?_)
 unfold m104 at h
 refine AWP.sv (.cons (.box (t := 1) (n := 2) (l1 rfl) (nm rfl) (.t rfl) (by first | exact ⟨rfl,rfl⟩ | rfl) rfl)<| .cons (.assign (l1 rfl) (.const _ _ _))<| .nil _ _ _) ⟨[(1,rW β3 a1 eW),(2,rW β4 a2 eW),(3,.ptr 1 0)],[(1,⟨25,false,(pW β1 β2 a0)⟩)]⟩ rfl rfl ?_
 refine AWP.sv (.cons (.buildSlice (t := 2) (out := ([] : List Int).flatMap eW) (l1 rfl) (nm rfl) (.nil) Tryz.underlying28 zero3 el3 (by decide) (by decide) rfl (still_all (encI_still .i64) _))<| .cons (.assign (l1 rfl) (.t rfl))<| .nil _ _ _) ⟨[(1,rW β3 a1 eW),(2,rW β4 a2 eW),(3,.ptr 1 0),(7,.own 2 1 0 ([] : List Int).length)],[(2,⟨3,true,([] : List Int).flatMap eW⟩),(1,⟨25,false,(pW β1 β2 a0)⟩)]⟩ rfl rfl ?_
 refine AWP.seq ?_
 refine AWP.sv (.cons (.move (l1 rfl) (.t rfl))<| .cons (.lenRd (l1 rfl) (.t rfl) Tryz.underlying28)<| .cons (.gtr (l1 rfl) (.t rfl) (.const _ _ _))<| .nil _ _ _) ⟨[(1,rW β3 a1 eW),(2,rW β4 a2 eW),(3,.ptr 1 0),(7,.own 2 1 0 ([] : List Int).length),(18,bW (decide ((0 : Int) < (a2.length : Int))))],[(2,⟨3,true,([] : List Int).flatMap eW⟩),(1,⟨25,false,(pW β1 β2 a0)⟩)]⟩ rfl rfl ?_
 refine AWP.join' (S := fun p_3 : (List Int) => ⟨[(1,rW β3 a1 eW),(2,rW β4 a2 eW),(3,.ptr 1 0),(7,.own 2 1 0 p_3.length)],[(1,⟨25,false,(pW β1 β2 a0)⟩),(2,⟨3,true,p_3.flatMap eW⟩)]⟩) h (fun p_3 h => ?_) (fun k_4 h => ?_)
 ·refine AWP.sv (.cons (.assign (l1 rfl) (.const _ _ _))<| .nil _ _ _) ⟨[(1,rW β3 a1 eW),(2,rW β4 a2 eW),(3,.ptr 1 0),(7,.own 2 1 0 p_3.length),(8,iW (0 : Int))],[(1,⟨25,false,(pW β1 β2 a0)⟩),(2,⟨3,true,p_3.flatMap eW⟩)]⟩ rfl rfl ?_
  refine AWP.seq ?_
  refine AWP.joinB' (S := fun p_333 : Int => ⟨[(8,iW p_333)],[]⟩) h (fun p_333 h => ?_) (fun k_334 h => ?_)
  ·refine AWP.sr (.cons (.move (l1 rfl) (.t rfl))<| .cons (.assign (l1 rfl) (.t rfl))<| .nil _ _ _) ?_
   refine AWP.ret ?_
   obtain rfl := Option.some.inj h
   refine retJ (Res.vc (s' := ⟨[(6,iW p_333)],[]⟩) (VC.sub (.of rfl) (.n _)) ?_)
   refine Res.drop (H := []) rfl ?_
   exact Res.of rfl (.cons (.tmp rfl) (.nil)) rfl rfl
  ·refine AWP.vs ⟨[(1,rW β3 a1 eW),(2,rW β4 a2 eW),(3,.ptr 1 0),(7,.own 2 1 0 p_3.length),(8,iW (0 : Int))],[(1,⟨25,false,(pW β1 β2 a0)⟩),(2,⟨3,true,p_3.flatMap eW⟩)]⟩ rfl rfl ?_
   refine AWP.loopM (S := fun x_223 : Int × (List Int) => ⟨[(1,rW β3 a1 eW),(2,rW β4 a2 eW),(3,.ptr 1 0),(7,.own 2 1 0 x_223.2.length),(8,iW x_223.1)],[(1,⟨25,false,(pW β1 β2 a0)⟩),(2,⟨3,true,x_223.2.flatMap eW⟩)]⟩) (x := ((0 : Int),p_3)) (fun nx_224 x_223 h => ?_) h
   unfold m104_L9 at h
   refine AWP.seq ?_
   refine AWP.sv (.cons (.move (l1 rfl) (.t rfl))<| .cons (.lenOwn (l1 rfl) (.t rfl) Tryz.underlying28)<| .cons (.move (l1 rfl) (.t rfl))<| .cons (.lenRd (l1 rfl) (.t rfl) Tryz.underlying28)<| .cons (.lss (l1 rfl) (.t rfl) (.t rfl))<| .nil _ _ _) ⟨[(1,rW β3 a1 eW),(2,rW β4 a2 eW),(3,.ptr 1 0),(7,.own 2 1 0 x_223.2.length),(8,iW x_223.1),(29,bW (decide ((x_223.2.length : Int) < (a2.length : Int))))],[(1,⟨25,false,(pW β1 β2 a0)⟩),(2,⟨3,true,x_223.2.flatMap eW⟩)]⟩ rfl rfl ?_
   refine AWP.cond (.t rfl) (fun hc => ?_) (fun hc => ?_)
   ·have h := iteT hc h
    refine AWP.skip ?_
    refine AWP.block ?_
    refine AWP.sv (.cons (.assign (l1 rfl) (.const _ _ _))<| .cons (.assign (l1 rfl) (.const _ _ _))<| .cons (.assign (l1 rfl) (.const _ _ _))<| .nil _ _ _) ⟨[(1,rW β3 a1 eW),(2,rW β4 a2 eW),(3,.ptr 1 0),(7,.own 2 1 0 x_223.2.length),(8,iW x_223.1),(9,iW (0 : Int)),(10,iW (0 : Int)),(11,bW true)],[(1,⟨25,false,(pW β1 β2 a0)⟩),(2,⟨3,true,x_223.2.flatMap eW⟩)]⟩ rfl rfl ?_
    refine AWP.seq ?_
    refine AWP.sv (.cons (.assign (l1 rfl) (.const _ _ _))<| .nil _ _ _) ⟨[(1,rW β3 a1 eW),(2,rW β4 a2 eW),(3,.ptr 1 0),(7,.own 2 1 0 x_223.2.length),(8,iW x_223.1),(9,iW (0 : Int)),(10,iW (0 : Int)),(11,bW true),(12,iW (0 : Int))],[(1,⟨25,false,(pW β1 β2 a0)⟩),(2,⟨3,true,x_223.2.flatMap eW⟩)]⟩ rfl rfl ?_
    refine AWP.joinB' (S := fun p_329 : Int × Int => ⟨[(1,rW β3 a1 eW),(2,rW β4 a2 eW),(3,.ptr 1 0),(7,.own 2 1 0 x_223.2.length),(8,iW x_223.1),(9,iW p_329.1),(10,iW p_329.2)],[(1,⟨25,false,(pW β1 β2 a0)⟩),(2,⟨3,true,x_223.2.flatMap eW⟩)]⟩) h (fun p_329 h => ?_) (fun k_330 h => ?_)
    ·obtain ⟨t8_331,ht8_331,h⟩ := letS h
     refine AWP.sr (.cons (.move (l1 rfl) (.t rfl))<| .cons (.move (l1 rfl) (.t rfl))<| .cons (.add (l1 rfl) (.t rfl) (.t rfl))<| .cons (.assign (l1 rfl) (.t rfl))<| .nil _ _ _) ?_
     refine AWP.vc (s' := ⟨[(1,rW β3 a1 eW),(2,rW β4 a2 eW),(3,.ptr 1 0),(7,.own 2 1 0 x_223.2.length),(8,iW t8_331),(10,iW p_329.2)],[(1,⟨25,false,(pW β1 β2 a0)⟩),(2,⟨3,true,x_223.2.flatMap eW⟩)]⟩) (by subst ht8_331; exact VC.sub (.of rfl) (.of rfl)) ?_
     obtain ⟨l2_332,hl2_332,h⟩ := bindS h
     refine AWP.rg (.cons (.move (l1 rfl) (.t rfl))<| .cons (.move (l1 rfl) (.t rfl))<| .cons (.buildSlice (t := 4) (out := ([p_329.2] : List Int).flatMap eW) (l1 rfl) (nm rfl) (.cons (.t rfl) (by first | exact ⟨rfl,rfl⟩ | rfl) (.nil)) Tryz.underlying28 zero3 el3 (by decide) (by decide) rfl (still_all (encI_still .i64) _))<| .cons (.app (enc := eW) (l1 rfl) (nm rfl) (.t rfl) (Src.own (.t rfl) rfl (lendAll (encI_len .i64) _) (flatMap_length (encI_len .i64) _) (one_all (encI_one .i64) _) (.inl rfl)) Tryz.underlying28 ⟨_,Tryz.underlying28,by intro k hk; cases hk⟩ el3 rfl (encI_len .i64) rfl rfl (by decide) hl2_332)<| .cons (.assign (l1 rfl) (.t rfl))<| .nil _ _ _) ?_
     exact endJ (t8_331,l2_332) h (VC.sub (.of rfl) (.of rfl))
    ·refine AWP.vs ⟨[(1,rW β3 a1 eW),(2,rW β4 a2 eW),(3,.ptr 1 0),(7,.own 2 1 0 x_223.2.length),(8,iW x_223.1),(9,iW (0 : Int)),(10,iW (0 : Int)),(11,bW true),(12,iW (0 : Int))],[(1,⟨25,false,(pW β1 β2 a0)⟩),(2,⟨3,true,x_223.2.flatMap eW⟩)]⟩ rfl rfl ?_
     refine AWP.loopM (S := fun x_293 : Int × Int × Bool × Int => ⟨[(1,rW β3 a1 eW),(2,rW β4 a2 eW),(3,.ptr 1 0),(7,.own 2 1 0 x_223.2.length),(8,iW x_223.1),(9,iW x_293.1),(10,iW x_293.2.1),(11,bW x_293.2.2.1),(12,iW x_293.2.2.2)],[(1,⟨25,false,(pW β1 β2 a0)⟩),(2,⟨3,true,x_223.2.flatMap eW⟩)]⟩) (x := ((0 : Int),(0 : Int),true,(0 : Int))) (fun nx_294 x_293 h => ?_) h
     unfold m104_L12 at h
     refine AWP.seq ?_
     refine AWP.sv (.cons (.move (l1 rfl) (.t rfl))<| .cons (.move (l1 rfl) (.t rfl))<| .cons (.lenRd (l1 rfl) (.t rfl) Tryz.underlying28)<| .cons (.lss (l1 rfl) (.t rfl) (.t rfl))<| .nil _ _ _) ⟨[(1,rW β3 a1 eW),(2,rW β4 a2 eW),(3,.ptr 1 0),(7,.own 2 1 0 x_223.2.length),(8,iW x_223.1),(9,iW x_293.1),(10,iW x_293.2.1),(11,bW x_293.2.2.1),(12,iW x_293.2.2.2),(33,bW (decide (x_293.2.2.2 < (a2.length : Int))))],[(1,⟨25,false,(pW β1 β2 a0)⟩),(2,⟨3,true,x_223.2.flatMap eW⟩)]⟩ rfl rfl ?_
     refine AWP.cond (.t rfl) (fun hc => ?_) (fun hc => ?_)
     ·have h := iteT hc h
      refine AWP.skip ?_
      refine AWP.seq ?_
      refine AWP.block ?_
      refine AWP.sv (.cons (.assign (l1 rfl) (.const _ _ _))<| .nil _ _ _) ⟨[(1,rW β3 a1 eW),(2,rW β4 a2 eW),(3,.ptr 1 0),(7,.own 2 1 0 x_223.2.length),(8,iW x_223.1),(9,iW x_293.1),(10,iW x_293.2.1),(11,bW x_293.2.2.1),(12,iW x_293.2.2.2),(13,iW (0 : Int))],[(1,⟨25,false,(pW β1 β2 a0)⟩),(2,⟨3,true,x_223.2.flatMap eW⟩)]⟩ rfl rfl ?_
      refine AWP.joinB' (S := fun p_326 : Int × Int × Bool => ⟨[(1,rW β3 a1 eW),(2,rW β4 a2 eW),(3,.ptr 1 0),(7,.own 2 1 0 x_223.2.length),(8,iW x_223.1),(9,iW p_326.1),(10,iW p_326.2.1),(11,bW p_326.2.2),(12,iW x_293.2.2.2)],[(1,⟨25,false,(pW β1 β2 a0)⟩),(2,⟨3,true,x_223.2.flatMap eW⟩)]⟩) h (fun p_326 h => ?_) (fun k_327 h => ?_)
      ·obtain ⟨t12_328,ht12_328,h⟩ := letS h
       refine AWP.rg (.cons (.move (l1 rfl) (.t rfl))<| .cons (.add (l1 rfl) (.t rfl) (.const _ _ _))<| .cons (.assign (l1 rfl) (.t rfl))<| .nil _ _ _) ?_
       exact endJ (p_326.1,p_326.2.1,p_326.2.2,t12_328) h (by subst ht12_328; exact VC.sub (.of rfl) (.of rfl))
      ·refine AWP.vs ⟨[(1,rW β3 a1 eW),(2,rW β4 a2 eW),(3,.ptr 1 0),(7,.own 2 1 0 x_223.2.length),(8,iW x_223.1),(9,iW x_293.1),(10,iW x_293.2.1),(11,bW x_293.2.2.1),(12,iW x_293.2.2.2),(13,iW (0 : Int))],[(1,⟨25,false,(pW β1 β2 a0)⟩),(2,⟨3,true,x_223.2.flatMap eW⟩)]⟩ rfl rfl ?_
       refine AWP.loopM (S := fun x_315 : Int × Int × Bool × Int => ⟨[(1,rW β3 a1 eW),(2,rW β4 a2 eW),(3,.ptr 1 0),(7,.own 2 1 0 x_223.2.length),(8,iW x_223.1),(9,iW x_315.1),(10,iW x_315.2.1),(11,bW x_315.2.2.1),(12,iW x_293.2.2.2),(13,iW x_315.2.2.2)],[(1,⟨25,false,(pW β1 β2 a0)⟩),(2,⟨3,true,x_223.2.flatMap eW⟩)]⟩) (x := (x_293.1,x_293.2.1,x_293.2.2.1,(0 : Int))) (fun nx_316 x_315 h => ?_) h
       unfold m104_L13 at h
       refine AWP.seq ?_
       obtain ⟨y_317,hy_317,h⟩ := bindS h
       obtain ⟨y_318,hy_318,h⟩ := bindS h
       refine AWP.sv (.cons (.move (l1 rfl) (.t rfl))<| .cons (.move (l1 rfl) (.t rfl))<| .cons (.lenOwn (l1 rfl) (.t rfl) Tryz.underlying28)<| .cons (.lss (l1 rfl) (.t rfl) (.t rfl))<| .cons (.move (l1 rfl) (.t rfl))<| .guard (j := 4) (dj := 40) rfl (l1 rfl) rfl (l1 rfl) (fun hg => .move (l1 rfl) (.t rfl))<| .guard (j := 4) (dj := 40) rfl (l1 rfl) rfl (l1 rfl) (fun hg => .move (l1 rfl) (.t rfl))<| .guard (j := 4) (dj := 40) rfl (l1 rfl) rfl (l1 rfl) (fun hg => .move (l1 rfl) (.t rfl))<| .guard (j := 4) (dj := 40) rfl (l1 rfl) rfl (l1 rfl) (fun hg => .indexRd (enc := eW) (l1 rfl) (.gd hg (.t rfl)) (.gd hg (.t rfl)) Tryz.underlying28 sz3 (encI_len .i64) rfl (gdB hy_317 hg))<| .guard (j := 4) (dj := 40) rfl (l1 rfl) rfl (l1 rfl) (fun hg => .loadR (v := iW y_317) (l1 rfl) (.gd hg (.t rfl)) one3 rfl)<| .guard (j := 4) (dj := 40) rfl (l1 rfl) rfl (l1 rfl) (fun hg => .call0 (bw := true) (l1 rfl) (c57 (β1 := true) n x_223.2 y_317 (gdB hy_318 hg)) (.cons (.gd hg (.t rfl)) (.lendRow rfl rfl (encI_len .i64) rfl) (.cons (.gd hg (.t rfl)) (.ren rfl) (.nil))) rfl)<| .guard (j := 4) (dj := 40) rfl (l1 rfl) rfl (l1 rfl) (fun hg => .not (l1 rfl) (.gd hg (.t rfl)))<| .cons (.pickAnd (l1 rfl) (.t rfl) (.t rfl) (.const _ _ _))<| .nil _ _ _) ⟨[(1,rW β3 a1 eW),(2,rW β4 a2 eW),(3,.ptr 1 0),(7,.own 2 1 0 x_223.2.length),(8,iW x_223.1),(9,iW x_315.1),(10,iW x_315.2.1),(11,bW x_315.2.2.1),(12,iW x_293.2.2.2),(13,iW x_315.2.2.2),(48,bW ((decide (x_315.2.2.2 < (x_223.2.length : Int))) && (!y_318)))],[(1,⟨25,false,(pW β1 β2 a0)⟩),(2,⟨3,true,x_223.2.flatMap eW⟩)]⟩ rfl rfl ?_
       refine AWP.cond (.t rfl) (fun hc => ?_) (fun hc => ?_)
       ·have h := iteT hc h
        refine AWP.skip ?_
        refine AWP.seq ?_
        refine AWP.block ?_
        refine AWP.seq ?_
        obtain ⟨y_319,hy_319,h⟩ := bindS h
        obtain ⟨y_320,hy_320,h⟩ := bindS h
        obtain ⟨y_321,hy_321,h⟩ := bindS h
        refine AWP.dw mixed [(1,rW β3 a1 eW),(2,rW β4 a2 eW),(3,.ptr 1 0),(7,.own 2 1 0 x_223.2.length),(8,iW x_223.1),(9,iW x_315.1),(10,iW x_315.2.1),(11,bW x_315.2.2.1),(12,iW x_293.2.2.2),(13,iW x_315.2.2.2),(48,bW ((decide (x_315.2.2.2 < (x_223.2.length : Int))) && (!y_318)))] [] [dO [2] 51 (.agg (pW β1 β2 a0)),dO [0] 52 (rW β3 a1 eW),dO [1] 53 (rW β4 a2 eW),dO [8] 54 (iW x_293.2.2.2),dO [13,14] 55 (.rptr β4 [iW y_319]),dO [15] 56 (iW y_319),dO [3] 57 (.own 2 1 0 x_223.2.length),dO [9] 58 (iW x_315.2.2.2),dO [17,18] 59 (.ptr 2 (0 + (x_315.2.2.2).toNat * 1)),dO [19] 60 (iW y_320),dO [11,12,16,20] 61 (iW y_321),dO [21] 14 (iW y_321)] [] [[(1,⟨25,false,(pW β1 β2 a0)⟩),(2,⟨3,true,x_223.2.flatMap eW⟩)]] [[],[],[],[],[2,4],[2,5],[],[],[6,8],[6,9],[0,10],[0,11]] [0,1,2,3,4,5,6,7,8,9,22] rfl rfl (by kernel_rfl) rfl (.r rfl rfl (fun _ q => .loadPA (l1 rfl) (q.t 0 rfl) agg25 rfl rfl rfl rfl)<| .p rfl (fun _ q _ => .move (l1 rfl) (q.t 0 rfl))<| .p rfl (fun _ q _ => .move (l1 rfl) (q.t 0 rfl))<| .p rfl (fun _ q _ => .move (l1 rfl) (q.t 0 rfl))<| .p rfl (fun _ q _ => .indexRd (enc := eW) (l1 rfl) (q.t 0 rfl) (q.t 1 rfl) Tryz.underlying28 sz3 (encI_len .i64) rfl hy_319)<| .p rfl (fun _ q _ => .loadR (v := iW y_319) (l1 rfl) (q.t 0 rfl) one3 rfl)<| .r rfl rfl (fun _ q => .move (l1 rfl) (q.t 0 rfl))<| .p rfl (fun _ q _ => .move (l1 rfl) (q.t 0 rfl))<| .r rfl rfl (fun _ q => .idxOwn (l1 rfl) (q.t 0 rfl) (q.t 1 rfl) Tryz.underlying28 sz3 rfl hy_320)<| .r rfl rfl (fun _ q => .loadP (l1 rfl) (q.t 0 rfl) one3 rfl (cell_at1 (encI_len .i64) hy_320) rfl)<| .p rfl (fun _ q _ => .call0 (bw := false) (l1 rfl) (c106 (β1 := β1) (β2 := β2) (β3 := β3) n (R24.mk a0.Pq a0.Bq) a1 y_319 y_320 hy_321) (.cons (q.t 0 rfl) (.ren rfl) (.cons (q.t 1 rfl) (.ren rfl) (.cons (q.t 2 rfl) (.ren rfl) (.cons (q.t 3 rfl) (.ren rfl) (.nil))))) rfl)<| .p rfl (fun _ q _ => .assign (l1 rfl) (q.t 0 rfl))<| .nil _) rfl rfl ?_
        refine AWP.vs ⟨[(1,rW β3 a1 eW),(2,rW β4 a2 eW),(3,.ptr 1 0),(7,.own 2 1 0 x_223.2.length),(8,iW x_223.1),(9,iW x_315.1),(10,iW x_315.2.1),(11,bW x_315.2.2.1),(12,iW x_293.2.2.2),(13,iW x_315.2.2.2),(14,iW y_321)],[(1,⟨25,false,(pW β1 β2 a0)⟩),(2,⟨3,true,x_223.2.flatMap eW⟩)]⟩ rfl rfl ?_
        refine AWP.sv (.cons (.move (l1 rfl) (.t rfl))<| .cons (.move (l1 rfl) (.t rfl))<| .guard (j := 1) (dj := 63) rfl (l1 rfl) rfl (l1 rfl) (fun hg => .move (l1 rfl) (.t rfl))<| .guard (j := 1) (dj := 63) rfl (l1 rfl) rfl (l1 rfl) (fun hg => .move (l1 rfl) (.t rfl))<| .guard (j := 1) (dj := 63) rfl (l1 rfl) rfl (l1 rfl) (fun hg => .lss (l1 rfl) (.gd hg (.t rfl)) (.gd hg (.t rfl)))<| .cons (.pickOr (l1 rfl) (.t rfl) (.const _ _ _) (.t rfl))<| .nil _ _ _) ⟨[(1,rW β3 a1 eW),(2,rW β4 a2 eW),(3,.ptr 1 0),(7,.own 2 1 0 x_223.2.length),(8,iW x_223.1),(9,iW x_315.1),(10,iW x_315.2.1),(11,bW x_315.2.2.1),(12,iW x_293.2.2.2),(13,iW x_315.2.2.2),(14,iW y_321),(67,bW (x_315.2.2.1 || (decide (y_321 < x_315.1))))],[(1,⟨25,false,(pW β1 β2 a0)⟩),(2,⟨3,true,x_223.2.flatMap eW⟩)]⟩ rfl rfl ?_
        refine AWP.join' (S := fun p_323 : Int × Int × Bool => ⟨[(1,rW β3 a1 eW),(2,rW β4 a2 eW),(3,.ptr 1 0),(7,.own 2 1 0 x_223.2.length),(8,iW x_223.1),(9,iW p_323.1),(10,iW p_323.2.1),(11,bW p_323.2.2),(12,iW x_293.2.2.2),(13,iW x_315.2.2.2)],[(1,⟨25,false,(pW β1 β2 a0)⟩),(2,⟨3,true,x_223.2.flatMap eW⟩)]⟩) h (fun p_323 h => ?_) (fun k_324 h => ?_)
        ·obtain ⟨t13_325,ht13_325,h⟩ := letS h
         refine AWP.rg (.cons (.move (l1 rfl) (.t rfl))<| .cons (.add (l1 rfl) (.t rfl) (.const _ _ _))<| .cons (.assign (l1 rfl) (.t rfl))<| .nil _ _ _) ?_
         exact endJ (p_323.1,p_323.2.1,p_323.2.2,t13_325) h (by subst ht13_325; exact VC.sub (.of rfl) (.of rfl))
        ·refine AWP.cond (.t rfl) (fun hc => ?_) (fun hc => ?_)
         ·have h := iteT hc h
          obtain ⟨y_322,hy_322,h⟩ := bindS h
          refine AWP.dw mixed [(1,rW β3 a1 eW),(2,rW β4 a2 eW),(3,.ptr 1 0),(7,.own 2 1 0 x_223.2.length),(8,iW x_223.1),(9,iW x_315.1),(10,iW x_315.2.1),(11,bW x_315.2.2.1),(12,iW x_293.2.2.2),(13,iW x_315.2.2.2),(14,iW y_321),(67,bW (x_315.2.2.1 || (decide (y_321 < x_315.1))))] [(5,[5]),(6,[6]),(7,[7])] [dO [10] 68 (iW y_321),dO [1] 69 (rW β4 a2 eW),dO [8] 70 (iW x_293.2.2.2),dO [13,14] 71 (.rptr β4 [iW y_322]),dO [15] 72 (iW y_322),dO [12] 9 (iW y_321),dO [16] 10 (iW y_322),dO [] 11 (bW false)] [] [[(1,⟨25,false,(pW β1 β2 a0)⟩),(2,⟨3,true,x_223.2.flatMap eW⟩)]] [[],[],[],[1,3],[1,4],[0,1],[0,6],[0,7]] [0,1,2,3,4,17,18,19,8,9] rfl rfl (by kernel_rfl) rfl (.p rfl (fun _ q _ => .move (l1 rfl) (q.t 0 rfl))<| .p rfl (fun _ q _ => .move (l1 rfl) (q.t 0 rfl))<| .p rfl (fun _ q _ => .move (l1 rfl) (q.t 0 rfl))<| .p rfl (fun _ q _ => .indexRd (enc := eW) (l1 rfl) (q.t 0 rfl) (q.t 1 rfl) Tryz.underlying28 sz3 (encI_len .i64) rfl hy_322)<| .p rfl (fun _ q _ => .loadR (v := iW y_322) (l1 rfl) (q.t 0 rfl) one3 rfl)<| .p rfl (fun _ q _ => .assign (l1 rfl) (q.t 0 rfl))<| .p rfl (fun _ q _ => .assign (l1 rfl) (q.t 0 rfl))<| .p rfl (fun _ q _ => .assign (l1 rfl) (.const _ _ _))<| .nil _) rfl rfl ?_
          exact endJ (y_321,y_322,false) h (VC.sub (.of rfl) (.of rfl))
         ·have h := iteF hc h
          refine AWP.skip ?_
          exact endJ (x_315.1,x_315.2.1,x_315.2.2.1) h (VC.sub (.of rfl) (.of rfl))
       ·have h := iteF hc h
        refine AWP.exit ?_
        exact endJ (x_315.1,x_315.2.1,x_315.2.2.1) h (VC.sub (.of rfl) (.of rfl))
     ·have h := iteF hc h
      refine AWP.exit ?_
      exact endJ (x_293.1,x_293.2.1) h (VC.sub (.of rfl) (.of rfl))
   ·have h := iteF hc h
    refine AWP.exit ?_
    exact endJ x_223.1 h (VC.sub (.of rfl) (.n _))
 ·refine AWP.cond (.t rfl) (fun hc => ?_) (fun hc => ?_)
  ·have h := iteT hc h
   obtain ⟨y_1,hy_1,h⟩ := bindS h
   obtain ⟨l2_2,hl2_2,h⟩ := bindS h
   refine AWP.rg (.cons (.move (l1 rfl) (.t rfl))<| .cons (.move (l1 rfl) (.t rfl))<| .cons (.indexRd (enc := eW) (l1 rfl) (.t rfl) (.const _ _ _) Tryz.underlying28 sz3 (encI_len .i64) rfl hy_1)<| .cons (.loadR (v := iW y_1) (l1 rfl) (.t rfl) one3 rfl)<| .cons (.buildSlice (t := 3) (out := ([y_1] : List Int).flatMap eW) (l1 rfl) (nm rfl) (.cons (.t rfl) (by first | exact ⟨rfl,rfl⟩ | rfl) (.nil)) Tryz.underlying28 zero3 el3 (by decide) (by decide) rfl (still_all (encI_still .i64) _))<| .cons (.app (enc := eW) (l1 rfl) (nm rfl) (.t rfl) (Src.own (.t rfl) rfl (lendAll (encI_len .i64) _) (flatMap_length (encI_len .i64) _) (one_all (encI_one .i64) _) (.inl rfl)) Tryz.underlying28 ⟨_,Tryz.underlying28,by intro k hk; cases hk⟩ el3 rfl (encI_len .i64) rfl rfl (by decide) hl2_2)<| .cons (.assign (l1 rfl) (.t rfl))<| .nil _ _ _) ?_
   exact endJ l2_2 h (VC.sub (.of rfl) (.of rfl))
  ·have h := iteF hc h
   refine AWP.skip ?_
   exact endJ ([] : List Int) h (VC.sub (.of rfl) (.of rfl))
theorem c103 {β1 : Bool} {β2 : Bool} {β3 : Bool} (n : Nat) (a0 : R24) (a1 : (List Int)) {r : (Int × Int)} (h : m103 n a0 a1 = some r) : Spec Tryz.prog 103 [] [.agg (pW β1 β2 a0),rW β3 a1 eW] [] (.tup [iW r.1,iW r.2]) [] := by
 refine Spec.of (fn := Tryz.f103) Tryz.func103 Tryz.ntmps103 rfl rfl (le1 rfl) (fun w0 Zs Zb T0 ι0 => ?_)
 unfold m103 at h
 refine AWP.sv (.cons (.box (t := 1) (n := 2) (l1 rfl) (nm rfl) (.t rfl) (by first | exact ⟨rfl,rfl⟩ | rfl) rfl)<| .cons (.assign (l1 rfl) (.const _ _ _))<| .cons (.assign (l1 rfl) (.const _ _ _))<| .nil _ _ _) ⟨[(1,rW β3 a1 eW),(2,.ptr 1 0)],[(1,⟨25,false,(pW β1 β2 a0)⟩)]⟩ rfl rfl ?_
 refine AWP.seq ?_
 refine AWP.block ?_
 obtain ⟨y_1,hy_1,h⟩ := bindS h
 refine AWP.sv (.cons (.loadPA (l1 rfl) (.t rfl) agg25 rfl rfl rfl rfl)<| .cons (.call0 (bw := false) (l1 rfl) (c8 (β1 := β1) (β2 := β2) n (R24.mk a0.Pq a0.Bq) hy_1) (.cons (.t rfl) (.ren rfl) (.nil)) rfl)<| .cons (.not (l1 rfl) (.t rfl))<| .cons (.assign (l1 rfl) (.t rfl))<| .nil _ _ _) ⟨[(1,rW β3 a1 eW),(2,.ptr 1 0),(14,bW (!y_1))],[(1,⟨25,false,(pW β1 β2 a0)⟩)]⟩ rfl rfl ?_
 refine AWP.cond (.t rfl) (fun hc => ?_) (fun hc => ?_)
 ·have h := iteT hc h
  refine AWP.sr (.cons (.assign (l1 rfl) (.const _ _ _))<| .cons (.assign (l1 rfl) (.const _ _ _))<| .nil _ _ _) ?_
  refine AWP.ret ?_
  obtain rfl := Option.some.inj h
  refine retJ (Res.vc (s' := ⟨[(4,iW (0 : Int)),(5,iW (1 : Int))],[]⟩) (VC.sub (.of rfl) (.n _)) ?_)
  refine Res.drop (H := []) rfl ?_
  exact Res.of rfl (.cons (.tmp rfl) (.cons (.tmp rfl) (.nil))) rfl rfl
 ·have h := iteF hc h
  obtain ⟨y_2,hy_2,h⟩ := bindS h
  refine AWP.sv (.cons (.loadPA (l1 rfl) (.t rfl) agg25 rfl rfl rfl rfl)<| .cons (.move (l1 rfl) (.t rfl))<| .cons (.call0 (bw := false) (l1 rfl) (c97 (β1 := β1) (β2 := β2) (β3 := β3) n (R24.mk a0.Pq a0.Bq) a1 hy_2) (.cons (.t rfl) (.ren rfl) (.cons (.t rfl) (.ren rfl) (.nil))) rfl)<| .cons (.not (l1 rfl) (.t rfl))<| .cons (.assign (l1 rfl) (.t rfl))<| .nil _ _ _) ⟨[(1,rW β3 a1 eW),(2,.ptr 1 0),(18,bW (!y_2))],[(1,⟨25,false,(pW β1 β2 a0)⟩)]⟩ rfl rfl ?_
  refine AWP.cond (.t rfl) (fun hc => ?_) (fun hc => ?_)
  ·have h := iteT hc h
   refine AWP.sr (.cons (.assign (l1 rfl) (.const _ _ _))<| .cons (.assign (l1 rfl) (.const _ _ _))<| .nil _ _ _) ?_
   refine AWP.ret ?_
   obtain rfl := Option.some.inj h
   refine retJ (Res.vc (s' := ⟨[(4,iW (0 : Int)),(5,iW (2 : Int))],[]⟩) (VC.sub (.of rfl) (.n _)) ?_)
   refine Res.drop (H := []) rfl ?_
   exact Res.of rfl (.cons (.tmp rfl) (.cons (.tmp rfl) (.nil))) rfl rfl
  ·have h := iteF hc h
   refine AWP.skip ?_
   refine AWP.sv (.cons (.fieldP (l1 rfl) (.t rfl) fld25_0)<| .cons (.loadP (l1 rfl) (.t rfl) one22 rfl rfl rfl)<| .cons (.lenRd (l1 rfl) (.t rfl) Tryz.underlying22)<| .cons (.assign (l1 rfl) (.t rfl))<| .nil _ _ _) ⟨[(1,rW β3 a1 eW),(2,.ptr 1 0),(6,iW (a0.Pq.length : Int))],[(1,⟨25,false,(pW β1 β2 a0)⟩)]⟩ rfl rfl ?_
   refine AWP.seq ?_
   refine AWP.sv (.cons (.move (l1 rfl) (.t rfl))<| .cons (.lss (l1 rfl) (.t rfl) (.const _ _ _))<| .nil _ _ _) ⟨[(1,rW β3 a1 eW),(2,.ptr 1 0),(6,iW (a0.Pq.length : Int)),(27,bW (decide ((a0.Pq.length : Int) < (3 : Int))))],[(1,⟨25,false,(pW β1 β2 a0)⟩)]⟩ rfl rfl ?_
   refine AWP.cond (.t rfl) (fun hc => ?_) (fun hc => ?_)
   ·have h := iteT hc h
    refine AWP.seq ?_
    obtain ⟨y_3,hy_3,h⟩ := bindS h
    obtain ⟨y_4,hy_4,h⟩ := bindS h
    obtain ⟨y_5,hy_5,h⟩ := bindS h
    obtain ⟨t4_6,ht4_6,h⟩ := letS h
    refine AWP.dw mixed [(1,rW β3 a1 eW),(2,.ptr 1 0),(6,iW (a0.Pq.length : Int)),(27,bW (decide ((a0.Pq.length : Int) < (3 : Int))))] [] [dO [1] 28 (.ptr 1 (0 + 0)),dO [4] 29 (rW β1 a0.Pq e50),dO [5] 30 (.rptr β1 [iW y_3.X,iW y_3.Y]),dO [6] 31 (.agg [iW y_3.X,iW y_3.Y]),dO [1] 32 (.ptr 1 (0 + 0)),dO [8] 33 (rW β1 a0.Pq e50),dO [2] 34 (iW (a0.Pq.length : Int)),dO [10] 35 (iW (IntKind.wrap .i64 ((a0.Pq.length : Int) - (1 : Int)))),dO [9,11] 36 (.rptr β1 [iW y_4.X,iW y_4.Y]),dO [12] 37 (.agg [iW y_4.X,iW y_4.Y]),dO [7,13] 38 (iW y_5),dO [14] 39 (iW (IntKind.wrap .i64 ((2 : Int) * y_5))),dO [15] 4 (iW (IntKind.wrap .i64 ((2 : Int) * y_5))),dO [] 5 (iW (0 : Int))] [] [[(1,⟨25,false,(pW β1 β2 a0)⟩)]] [[],[0,1],[0,2],[0,3],[],[4,5],[],[6,7],[4,8],[4,9],[0,10],[0,11],[0,12],[0,13]] [16,17] rfl rfl (by kernel_rfl) rfl (.r rfl rfl (fun _ q => .fieldP (l1 rfl) (q.t 0 rfl) fld25_0)<| .r rfl rfl (fun _ q => .loadP (l1 rfl) (q.t 0 rfl) one22 rfl rfl rfl)<| .p rfl (fun _ q _ => .indexRd (enc := e50) (l1 rfl) (q.t 0 rfl) (.const _ _ _) Tryz.underlying22 sz51 encR50_len rfl hy_3)<| .p rfl (fun _ q _ => .loadRA (out := [iW y_3.X,iW y_3.Y]) (l1 rfl) (q.t 0 rfl) agg51 (Nat.le_of_eq (Eq.symm (encR50_len _))) rfl)<| .r rfl rfl (fun _ q => .fieldP (l1 rfl) (q.t 0 rfl) fld25_0)<| .r rfl rfl (fun _ q => .loadP (l1 rfl) (q.t 0 rfl) one22 rfl rfl rfl)<| .p rfl (fun _ q _ => .move (l1 rfl) (q.t 0 rfl))<| .p rfl (fun _ q _ => .sub (l1 rfl) (q.t 0 rfl) (.const _ _ _))<| .p rfl (fun _ q _ => .indexRd (enc := e50) (l1 rfl) (q.t 0 rfl) (q.t 1 rfl) Tryz.underlying22 sz51 encR50_len rfl hy_4)<| .p rfl (fun _ q _ => .loadRA (out := [iW y_4.X,iW y_4.Y]) (l1 rfl) (q.t 0 rfl) agg51 (Nat.le_of_eq (Eq.symm (encR50_len _))) rfl)<| .p rfl (fun _ q _ => .call0 (bw := false) (l1 rfl) (c83 n (R50.mk y_3.X y_3.Y) (R50.mk y_4.X y_4.Y) hy_5) (.cons (q.t 0 rfl) (.ren rfl) (.cons (q.t 1 rfl) (.ren rfl) (.nil))) rfl)<| .p rfl (fun _ q _ => .mul (l1 rfl) (.const _ _ _) (q.t 0 rfl))<| .p rfl (fun _ q _ => .assign (l1 rfl) (q.t 0 rfl))<| .p rfl (fun _ q _ => .assign (l1 rfl) (.const _ _ _))<| .nil _) rfl rfl ?_
    refine AWP.ret ?_
    obtain rfl := Option.some.inj h
    refine retJ (Res.vc (s' := ⟨[(4,iW t4_6),(5,iW (0 : Int))],[]⟩) (by subst ht4_6; exact VC.sub (.of rfl) (.n _)) ?_)
    refine Res.drop (H := []) rfl ?_
    exact Res.of rfl (.cons (.tmp rfl) (.cons (.tmp rfl) (.nil))) rfl rfl
   ·have h := iteF hc h
    refine AWP.skip ?_
    refine AWP.sv (.cons (.assign (l1 rfl) (.const _ _ _))<| .nil _ _ _) ⟨[(1,rW β3 a1 eW),(2,.ptr 1 0),(6,iW (a0.Pq.length : Int)),(7,.sc (.slice none 0 0))],[(1,⟨25,false,(pW β1 β2 a0)⟩)]⟩ rfl rfl ?_
    refine AWP.sv (.cons (.assign (l1 rfl) (.const _ _ _))<| .cons (.assign (l1 rfl) (.const _ _ _))<| .nil _ _ _) ⟨[(1,rW β3 a1 eW),(2,.ptr 1 0),(6,iW (a0.Pq.length : Int)),(7,.sc (.slice none 0 0)),(8,iW (1 : Int)),(9,iW (2 : Int))],[(1,⟨25,false,(pW β1 β2 a0)⟩)]⟩ rfl rfl ?_
    refine AWP.seq ?_
    refine AWP.seq ?_
    obtain ⟨y_7,hy_7,h⟩ := bindS h
    obtain ⟨y_8,hy_8,h⟩ := bindS h
    refine AWP.dw mixed [(1,rW β3 a1 eW),(2,.ptr 1 0),(6,iW (a0.Pq.length : Int)),(7,.sc (.slice none 0 0)),(8,iW (1 : Int)),(9,iW (2 : Int))] [] [dO [1] 40 (.agg (pW β1 β2 a0)),dO [0] 41 (rW β3 a1 eW),dO [6,7] 42 (iW y_7),dO [1] 43 (.agg (pW β1 β2 a0)),dO [0] 44 (rW β3 a1 eW),dO [9,10] 45 (iW y_8),dO [8,11] 46 (bW (decide (y_7 < y_8)))] [] [[(1,⟨25,false,(pW β1 β2 a0)⟩)]] [[],[],[0,2],[],[],[0,5],[0,6]] [0,1,2,3,4,5,12] rfl rfl (by kernel_rfl) rfl (.r rfl rfl (fun _ q => .loadPA (l1 rfl) (q.t 0 rfl) agg25 rfl rfl rfl rfl)<| .p rfl (fun _ q _ => .move (l1 rfl) (q.t 0 rfl))<| .p rfl (fun _ q _ => .call0 (bw := false) (l1 rfl) (c106 (β1 := β1) (β2 := β2) (β3 := β3) n (R24.mk a0.Pq a0.Bq) a1 (0 : Int) (2 : Int) hy_7) (.cons (q.t 0 rfl) (.ren rfl) (.cons (q.t 1 rfl) (.ren rfl) (.cons (.const _ _ _) (.ren rfl) (.cons (.const _ _ _) (.ren rfl) (.nil))))) rfl)<| .r rfl rfl (fun _ q => .loadPA (l1 rfl) (q.t 0 rfl) agg25 rfl rfl rfl rfl)<| .p rfl (fun _ q _ => .move (l1 rfl) (q.t 0 rfl))<| .p rfl (fun _ q _ => .call0 (bw := false) (l1 rfl) (c106 (β1 := β1) (β2 := β2) (β3 := β3) n (R24.mk a0.Pq a0.Bq) a1 (0 : Int) (1 : Int) hy_8) (.cons (q.t 0 rfl) (.ren rfl) (.cons (q.t 1 rfl) (.ren rfl) (.cons (.const _ _ _) (.ren rfl) (.cons (.const _ _ _) (.ren rfl) (.nil))))) rfl)<| .p rfl (fun _ q _ => .lss (l1 rfl) (q.t 0 rfl) (q.t 1 rfl))<| .nil _) rfl rfl ?_
    refine AWP.vs ⟨[(1,rW β3 a1 eW),(2,.ptr 1 0),(6,iW (a0.Pq.length : Int)),(7,.sc (.slice none 0 0)),(8,iW (1 : Int)),(9,iW (2 : Int)),(46,bW (decide (y_7 < y_8)))],[(1,⟨25,false,(pW β1 β2 a0)⟩)]⟩ rfl rfl ?_
    refine AWP.join' (S := fun p_9 : Int × Int => ⟨[(1,rW β3 a1 eW),(2,.ptr 1 0),(6,iW (a0.Pq.length : Int)),(7,.sc (.slice none 0 0)),(8,iW p_9.1),(9,iW p_9.2)],[(1,⟨25,false,(pW β1 β2 a0)⟩)]⟩) h (fun p_9 h => ?_) (fun k_10 h => ?_)
    ·refine AWP.sv (.cons (.assign (l1 rfl) (.const _ _ _))<| .nil _ _ _) ⟨[(1,rW β3 a1 eW),(2,.ptr 1 0),(6,iW (a0.Pq.length : Int)),(7,.sc (.slice none 0 0)),(8,iW p_9.1),(9,iW p_9.2),(10,iW (0 : Int))],[(1,⟨25,false,(pW β1 β2 a0)⟩)]⟩ rfl rfl ?_
     refine AWP.seq ?_
     refine AWP.sv (.cons (.assign (l1 rfl) (.const _ _ _))<| .nil _ _ _) ⟨[(1,rW β3 a1 eW),(2,.ptr 1 0),(6,iW (a0.Pq.length : Int)),(7,.sc (.slice none 0 0)),(8,iW p_9.1),(9,iW p_9.2),(10,iW (0 : Int)),(11,iW (1 : Int))],[(1,⟨25,false,(pW β1 β2 a0)⟩)]⟩ rfl rfl ?_
     refine AWP.joinB' (S := fun p_48 : Int × Int × (List Int) => ⟨[(1,rW β3 a1 eW),(2,.ptr 1 0),(6,iW (a0.Pq.length : Int)),(7,.own 2 1 0 p_48.2.2.length),(8,iW p_48.1),(9,iW p_48.2.1),(10,iW (0 : Int))],[(1,⟨25,false,(pW β1 β2 a0)⟩),(2,⟨3,true,p_48.2.2.flatMap eW⟩)]⟩) h (fun p_48 h => ?_) (fun k_49 h => ?_)
     ·refine AWP.seq ?_
      refine AWP.sv (.cons (.assign (l1 rfl) (.const _ _ _))<| .nil _ _ _) ⟨[(1,rW β3 a1 eW),(2,.ptr 1 0),(6,iW (a0.Pq.length : Int)),(7,.own 2 1 0 p_48.2.2.length),(8,iW p_48.1),(9,iW p_48.2.1),(10,iW (0 : Int)),(13,iW (0 : Int))],[(1,⟨25,false,(pW β1 β2 a0)⟩),(2,⟨3,true,p_48.2.2.flatMap eW⟩)]⟩ rfl rfl ?_
      refine AWP.joinB' (S := fun p_59 : Int => ⟨[(1,rW β3 a1 eW),(2,.ptr 1 0),(7,.own 2 1 0 p_48.2.2.length),(8,iW p_48.1),(9,iW p_48.2.1),(10,iW p_59)],[(1,⟨25,false,(pW β1 β2 a0)⟩),(2,⟨3,true,p_48.2.2.flatMap eW⟩)]⟩) h (fun p_59 h => ?_) (fun k_60 h => ?_)
      ·refine AWP.seq ?_
       obtain ⟨y_61,hy_61,h⟩ := bindS h
       obtain ⟨y_62,hy_62,h⟩ := bindS h
       obtain ⟨y_63,hy_63,h⟩ := bindS h
       obtain ⟨t4_64,ht4_64,h⟩ := letS h
       refine AWP.dw mixed [(1,rW β3 a1 eW),(2,.ptr 1 0),(7,.own 2 1 0 p_48.2.2.length),(8,iW p_48.1),(9,iW p_48.2.1),(10,iW p_59)] [] [dO [1] 91 (.agg (pW β1 β2 a0)),dO [0] 92 (rW β3 a1 eW),dO [2] 93 (.own 2 1 0 p_48.2.2.length),dO [6,7,8] 94 (iW y_61),dO [1] 95 (.agg (pW β1 β2 a0)),dO [0] 96 (rW β3 a1 eW),dO [3] 97 (iW p_48.1),dO [10,11,12] 98 (iW y_62),dO [9,13] 99 (iW (IntKind.wrap .i64 (y_61 + y_62))),dO [1] 100 (.agg (pW β1 β2 a0)),dO [0] 101 (rW β3 a1 eW),dO [4] 102 (iW p_48.2.1),dO [15,16,17] 103 (iW y_63),dO [14,18] 104 (iW (IntKind.wrap .i64 ((IntKind.wrap .i64 (y_61 + y_62)) + y_63))),dO [5] 105 (iW p_59),dO [20] 106 (iW (IntKind.wrap .i64 ((2 : Int) * p_59))),dO [19,21] 107 (iW (IntKind.wrap .i64 ((IntKind.wrap .i64 ((IntKind.wrap .i64 (y_61 + y_62)) + y_63)) - (IntKind.wrap .i64 ((2 : Int) * p_59))))),dO [22] 4 (iW (IntKind.wrap .i64 ((IntKind.wrap .i64 ((IntKind.wrap .i64 (y_61 + y_62)) + y_63)) - (IntKind.wrap .i64 ((2 : Int) * p_59))))),dO [] 5 (iW (0 : Int))] [] [[(1,⟨25,false,(pW β1 β2 a0)⟩),(2,⟨3,true,p_48.2.2.flatMap eW⟩)]] [[],[],[],[0,3],[],[],[],[0,7],[0,8],[],[],[],[0,8,9,12],[0,13],[],[14,15],[0,16],[0,17],[0,18]] [23,24] rfl rfl (by kernel_rfl) rfl (.r rfl rfl (fun _ q => .loadPA (l1 rfl) (q.t 0 rfl) agg25 rfl rfl rfl rfl)<| .p rfl (fun _ q _ => .move (l1 rfl) (q.t 0 rfl))<| .r rfl rfl (fun _ q => .move (l1 rfl) (q.t 0 rfl))<| .r rfl rfl (fun _ q => .call0 (bw := true) (l1 rfl) (c104 (β1 := β1) (β2 := β2) (β3 := β3) (β4 := true) n (R24.mk a0.Pq a0.Bq) a1 p_48.2.2 hy_61) (.cons (q.t 0 rfl) (.ren rfl) (.cons (q.t 1 rfl) (.ren rfl) (.cons (q.t 2 rfl) (.lendRow rfl rfl (encI_len .i64) rfl) (.nil)))) rfl)<| .r rfl rfl (fun _ q => .loadPA (l1 rfl) (q.t 0 rfl) agg25 rfl rfl rfl rfl)<| .p rfl (fun _ q _ => .move (l1 rfl) (q.t 0 rfl))<| .p rfl (fun _ q _ => .move (l1 rfl) (q.t 0 rfl))<| .p rfl (fun _ q _ => .call0 (bw := false) (l1 rfl) (c106 (β1 := β1) (β2 := β2) (β3 := β3) n (R24.mk a0.Pq a0.Bq) a1 (0 : Int) p_48.1 hy_62) (.cons (q.t 0 rfl) (.ren rfl) (.cons (q.t 1 rfl) (.ren rfl) (.cons (.const _ _ _) (.ren rfl) (.cons (q.t 2 rfl) (.ren rfl) (.nil))))) rfl)<| .p rfl (fun _ q _ => .add (l1 rfl) (q.t 0 rfl) (q.t 1 rfl))<| .r rfl rfl (fun _ q => .loadPA (l1 rfl) (q.t 0 rfl) agg25 rfl rfl rfl rfl)<| .p rfl (fun _ q _ => .move (l1 rfl) (q.t 0 rfl))<| .p rfl (fun _ q _ => .move (l1 rfl) (q.t 0 rfl))<| .p rfl (fun _ q _ => .call0 (bw := false) (l1 rfl) (c106 (β1 := β1) (β2 := β2) (β3 := β3) n (R24.mk a0.Pq a0.Bq) a1 (0 : Int) p_48.2.1 hy_63) (.cons (q.t 0 rfl) (.ren rfl) (.cons (q.t 1 rfl) (.ren rfl) (.cons (.const _ _ _) (.ren rfl) (.cons (q.t 2 rfl) (.ren rfl) (.nil))))) rfl)<| .p rfl (fun _ q _ => .add (l1 rfl) (q.t 0 rfl) (q.t 1 rfl))<| .p rfl (fun _ q _ => .move (l1 rfl) (q.t 0 rfl))<| .p rfl (fun _ q _ => .mul (l1 rfl) (.const _ _ _) (q.t 0 rfl))<| .p rfl (fun _ q _ => .sub (l1 rfl) (q.t 0 rfl) (q.t 1 rfl))<| .p rfl (fun _ q _ => .assign (l1 rfl) (q.t 0 rfl))<| .p rfl (fun _ q _ => .assign (l1 rfl) (.const _ _ _))<| .nil _) rfl rfl ?_
       refine AWP.ret ?_
       obtain rfl := Option.some.inj h
       refine retJ (Res.vc (s' := ⟨[(4,iW t4_64),(5,iW (0 : Int))],[]⟩) (by subst ht4_64; exact VC.sub (.of rfl) (.n _)) ?_)
       refine Res.drop (H := []) rfl ?_
       exact Res.of rfl (.cons (.tmp rfl) (.cons (.tmp rfl) (.nil))) rfl rfl
      ·refine AWP.vs ⟨[(1,rW β3 a1 eW),(2,.ptr 1 0),(6,iW (a0.Pq.length : Int)),(7,.own 2 1 0 p_48.2.2.length),(8,iW p_48.1),(9,iW p_48.2.1),(10,iW (0 : Int)),(13,iW (0 : Int))],[(1,⟨25,false,(pW β1 β2 a0)⟩),(2,⟨3,true,p_48.2.2.flatMap eW⟩)]⟩ rfl rfl ?_
       refine AWP.loopM (S := fun x_54 : Int × Int => ⟨[(1,rW β3 a1 eW),(2,.ptr 1 0),(6,iW (a0.Pq.length : Int)),(7,.own 2 1 0 p_48.2.2.length),(8,iW p_48.1),(9,iW p_48.2.1),(10,iW x_54.1),(13,iW x_54.2)],[(1,⟨25,false,(pW β1 β2 a0)⟩),(2,⟨3,true,p_48.2.2.flatMap eW⟩)]⟩) (x := ((0 : Int),(0 : Int))) (fun nx_55 x_54 h => ?_) h
       unfold m103_L2 at h
       refine AWP.seq ?_
       refine AWP.sv (.cons (.move (l1 rfl) (.t rfl))<| .cons (.move (l1 rfl) (.t rfl))<| .cons (.lss (l1 rfl) (.t rfl) (.t rfl))<| .nil _ _ _) ⟨[(1,rW β3 a1 eW),(2,.ptr 1 0),(6,iW (a0.Pq.length : Int)),(7,.own 2 1 0 p_48.2.2.length),(8,iW p_48.1),(9,iW p_48.2.1),(10,iW x_54.1),(13,iW x_54.2),(82,bW (decide (x_54.2 < (a0.Pq.length : Int))))],[(1,⟨25,false,(pW β1 β2 a0)⟩),(2,⟨3,true,p_48.2.2.flatMap eW⟩)]⟩ rfl rfl ?_
       refine AWP.cond (.t rfl) (fun hc => ?_) (fun hc => ?_)
       ·have h := iteT hc h
        refine AWP.skip ?_
        refine AWP.seq ?_
        refine AWP.block ?_
        obtain ⟨y_56,hy_56,h⟩ := bindS h
        obtain ⟨t10_57,ht10_57,h⟩ := letS h
        refine AWP.rg (.cons (.move (l1 rfl) (.t rfl))<| .cons (.move (l1 rfl) (.t rfl))<| .cons (.move (l1 rfl) (.t rfl))<| .cons (.indexRd (enc := eW) (l1 rfl) (.t rfl) (.t rfl) Tryz.underlying28 sz3 (encI_len .i64) rfl hy_56)<| .cons (.loadR (v := iW y_56) (l1 rfl) (.t rfl) one3 rfl)<| .cons (.add (l1 rfl) (.t rfl) (.t rfl))<| .cons (.assign (l1 rfl) (.t rfl))<| .nil _ _ _) ?_
        refine AWP.vc (s' := ⟨[(1,rW β3 a1 eW),(2,.ptr 1 0),(6,iW (a0.Pq.length : Int)),(7,.own 2 1 0 p_48.2.2.length),(8,iW p_48.1),(9,iW p_48.2.1),(10,iW t10_57),(13,iW x_54.2)],[(1,⟨25,false,(pW β1 β2 a0)⟩),(2,⟨3,true,p_48.2.2.flatMap eW⟩)]⟩) (by subst ht10_57; exact VC.sub (.of rfl) (.of rfl)) ?_
        obtain ⟨t13_58,ht13_58,h⟩ := letS h
        refine AWP.rg (.cons (.move (l1 rfl) (.t rfl))<| .cons (.add (l1 rfl) (.t rfl) (.const _ _ _))<| .cons (.assign (l1 rfl) (.t rfl))<| .nil _ _ _) ?_
        exact endJ (t10_57,t13_58) h (by subst ht13_58; exact VC.sub (.of rfl) (.of rfl))
       ·have h := iteF hc h
        refine AWP.exit ?_
        exact endJ x_54.1 h (VC.sub (.of rfl) (.of rfl))
     ·refine AWP.vc (VC.nilOwn (d := 7) (t := 2) (sz := 1) (E := 3) rfl (nm rfl)) ?_
      refine AWP.vs ⟨[(1,rW β3 a1 eW),(2,.ptr 1 0),(6,iW (a0.Pq.length : Int)),(7,.own 2 1 0 ([] : List Int).length),(8,iW p_9.1),(9,iW p_9.2),(10,iW (0 : Int)),(11,iW (1 : Int))],[(1,⟨25,false,(pW β1 β2 a0)⟩),(2,⟨3,true,([] : List Int).flatMap eW⟩)]⟩ rfl rfl ?_
      refine AWP.loopM (S := fun x_35 : Int × Int × Int × (List Int) => ⟨[(1,rW β3 a1 eW),(2,.ptr 1 0),(6,iW (a0.Pq.length : Int)),(7,.own 2 1 0 x_35.2.2.2.length),(8,iW x_35.1),(9,iW x_35.2.1),(10,iW (0 : Int)),(11,iW x_35.2.2.1)],[(1,⟨25,false,(pW β1 β2 a0)⟩),(2,⟨3,true,x_35.2.2.2.flatMap eW⟩)]⟩) (x := (p_9.1,p_9.2,(1 : Int),([] : List Int))) (fun nx_36 x_35 h => ?_) h
      unfold m103_L1 at h
      refine AWP.seq ?_
      refine AWP.sv (.cons (.move (l1 rfl) (.t rfl))<| .cons (.move (l1 rfl) (.t rfl))<| .cons (.lss (l1 rfl) (.t rfl) (.t rfl))<| .nil _ _ _) ⟨[(1,rW β3 a1 eW),(2,.ptr 1 0),(6,iW (a0.Pq.length : Int)),(7,.own 2 1 0 x_35.2.2.2.length),(8,iW x_35.1),(9,iW x_35.2.1),(10,iW (0 : Int)),(11,iW x_35.2.2.1),(49,bW (decide (x_35.2.2.1 < (a0.Pq.length : Int))))],[(1,⟨25,false,(pW β1 β2 a0)⟩),(2,⟨3,true,x_35.2.2.2.flatMap eW⟩)]⟩ rfl rfl ?_
      refine AWP.cond (.t rfl) (fun hc => ?_) (fun hc => ?_)
      ·have h := iteT hc h
       refine AWP.skip ?_
       refine AWP.seq ?_
       refine AWP.block ?_
       obtain ⟨l2_37,hl2_37,h⟩ := bindS h
       refine AWP.sv (.cons (.move (l1 rfl) (.t rfl))<| .cons (.move (l1 rfl) (.t rfl))<| .cons (.buildSlice (t := 3) (out := ([x_35.2.2.1] : List Int).flatMap eW) (l1 rfl) (nm rfl) (.cons (.t rfl) (by first | exact ⟨rfl,rfl⟩ | rfl) (.nil)) Tryz.underlying28 zero3 el3 (by decide) (by decide) rfl (still_all (encI_still .i64) _))<| .cons (.app (enc := eW) (l1 rfl) (nm rfl) (.t rfl) (Src.own (.t rfl) rfl (lendAll (encI_len .i64) _) (flatMap_length (encI_len .i64) _) (one_all (encI_one .i64) _) (.inl rfl)) Tryz.underlying28 ⟨_,Tryz.underlying28,by intro k hk; cases hk⟩ el3 rfl (encI_len .i64) rfl rfl (by decide) hl2_37)<| .cons (.assign (l1 rfl) (.t rfl))<| .nil _ _ _) ⟨[(1,rW β3 a1 eW),(2,.ptr 1 0),(6,iW (a0.Pq.length : Int)),(7,.own 2 1 0 l2_37.length),(8,iW x_35.1),(9,iW x_35.2.1),(10,iW (0 : Int)),(11,iW x_35.2.2.1)],[(2,⟨3,true,l2_37.flatMap eW⟩),(1,⟨25,false,(pW β1 β2 a0)⟩)]⟩ rfl rfl ?_
       obtain ⟨y_38,hy_38,h⟩ := bindS h
       refine AWP.sv (.cons (.loadPA (l1 rfl) (.t rfl) agg25 rfl rfl rfl rfl)<| .cons (.move (l1 rfl) (.t rfl))<| .cons (.move (l1 rfl) (.t rfl))<| .cons (.call0 (bw := false) (l1 rfl) (c106 (β1 := β1) (β2 := β2) (β3 := β3) n (R24.mk a0.Pq a0.Bq) a1 (0 : Int) x_35.2.2.1 hy_38) (.cons (.t rfl) (.ren rfl) (.cons (.t rfl) (.ren rfl) (.cons (.const _ _ _) (.ren rfl) (.cons (.t rfl) (.ren rfl) (.nil))))) rfl)<| .cons (.assign (l1 rfl) (.t rfl))<| .nil _ _ _) ⟨[(1,rW β3 a1 eW),(2,.ptr 1 0),(6,iW (a0.Pq.length : Int)),(7,.own 2 1 0 l2_37.length),(8,iW x_35.1),(9,iW x_35.2.1),(10,iW (0 : Int)),(11,iW x_35.2.2.1),(12,iW y_38)],[(2,⟨3,true,l2_37.flatMap eW⟩),(1,⟨25,false,(pW β1 β2 a0)⟩)]⟩ rfl rfl ?_
       refine AWP.block ?_
       refine AWP.sv (.cons (.move (l1 rfl) (.t rfl))<| .cons (.lss (l1 rfl) (.t rfl) (.const _ _ _))<| .cons (.assign (l1 rfl) (.t rfl))<| .nil _ _ _) ⟨[(1,rW β3 a1 eW),(2,.ptr 1 0),(6,iW (a0.Pq.length : Int)),(7,.own 2 1 0 l2_37.length),(8,iW x_35.1),(9,iW x_35.2.1),(10,iW (0 : Int)),(11,iW x_35.2.2.1),(12,iW y_38),(60,bW (decide (x_35.2.2.1 < (3 : Int))))],[(2,⟨3,true,l2_37.flatMap eW⟩),(1,⟨25,false,(pW β1 β2 a0)⟩)]⟩ rfl rfl ?_
       refine AWP.join' (S := fun p_45 : Int × Int => ⟨[(1,rW β3 a1 eW),(2,.ptr 1 0),(6,iW (a0.Pq.length : Int)),(7,.own 2 1 0 l2_37.length),(8,iW p_45.1),(9,iW p_45.2),(10,iW (0 : Int)),(11,iW x_35.2.2.1)],[(1,⟨25,false,(pW β1 β2 a0)⟩),(2,⟨3,true,l2_37.flatMap eW⟩)]⟩) h (fun p_45 h => ?_) (fun k_46 h => ?_)
       ·obtain ⟨t11_47,ht11_47,h⟩ := letS h
        refine AWP.rg (.cons (.move (l1 rfl) (.t rfl))<| .cons (.add (l1 rfl) (.t rfl) (.const _ _ _))<| .cons (.assign (l1 rfl) (.t rfl))<| .nil _ _ _) ?_
        exact endJ (p_45.1,p_45.2,t11_47,l2_37) h (by subst ht11_47; exact VC.sub (.of rfl) (.of rfl))
       ·refine AWP.cond (.t rfl) (fun hc => ?_) (fun hc => ?_)
        ·have h := iteT hc h
         refine AWP.skip ?_
         exact endJ (x_35.1,x_35.2.1) h (VC.sub (.of rfl) (.of rfl))
        ·have h := iteF hc h
         obtain ⟨y_39,hy_39,h⟩ := bindS h
         refine AWP.sv (.cons (.move (l1 rfl) (.t rfl))<| .cons (.loadPA (l1 rfl) (.t rfl) agg25 rfl rfl rfl rfl)<| .cons (.move (l1 rfl) (.t rfl))<| .cons (.move (l1 rfl) (.t rfl))<| .cons (.call0 (bw := false) (l1 rfl) (c106 (β1 := β1) (β2 := β2) (β3 := β3) n (R24.mk a0.Pq a0.Bq) a1 (0 : Int) x_35.1 hy_39) (.cons (.t rfl) (.ren rfl) (.cons (.t rfl) (.ren rfl) (.cons (.const _ _ _) (.ren rfl) (.cons (.t rfl) (.ren rfl) (.nil))))) rfl)<| .cons (.lss (l1 rfl) (.t rfl) (.t rfl))<| .cons (.assign (l1 rfl) (.t rfl))<| .nil _ _ _) ⟨[(1,rW β3 a1 eW),(2,.ptr 1 0),(6,iW (a0.Pq.length : Int)),(7,.own 2 1 0 l2_37.length),(8,iW x_35.1),(9,iW x_35.2.1),(10,iW (0 : Int)),(11,iW x_35.2.2.1),(12,iW y_38),(63,bW (decide (y_38 < y_39)))],[(2,⟨3,true,l2_37.flatMap eW⟩),(1,⟨25,false,(pW β1 β2 a0)⟩)]⟩ rfl rfl ?_
         refine AWP.join' (S := fun p_43 : Int × Int => ⟨[(1,rW β3 a1 eW),(2,.ptr 1 0),(6,iW (a0.Pq.length : Int)),(7,.own 2 1 0 l2_37.length),(8,iW p_43.1),(9,iW p_43.2),(10,iW (0 : Int)),(11,iW x_35.2.2.1)],[(1,⟨25,false,(pW β1 β2 a0)⟩),(2,⟨3,true,l2_37.flatMap eW⟩)]⟩) h (fun p_43 h => ?_) (fun k_44 h => ?_)
         ·exact endJ (p_43.1,p_43.2) h (VC.sub (.of rfl) (.of rfl))
         ·refine AWP.cond (.t rfl) (fun hc => ?_) (fun hc => ?_)
          ·have h := iteT hc h
           refine AWP.rg (.cons (.move (l1 rfl) (.t rfl))<| .cons (.move (l1 rfl) (.t rfl))<| .cons (.assign (l1 rfl) (.t rfl))<| .cons (.assign (l1 rfl) (.t rfl))<| .nil _ _ _) ?_
           exact endJ (x_35.2.2.1,x_35.1) h (VC.sub (.of rfl) (.of rfl))
          ·have h := iteF hc h
           obtain ⟨y_40,hy_40,h⟩ := bindS h
           refine AWP.sv (.cons (.move (l1 rfl) (.t rfl))<| .cons (.loadPA (l1 rfl) (.t rfl) agg25 rfl rfl rfl rfl)<| .cons (.move (l1 rfl) (.t rfl))<| .cons (.move (l1 rfl) (.t rfl))<| .cons (.call0 (bw := false) (l1 rfl) (c106 (β1 := β1) (β2 := β2) (β3 := β3) n (R24.mk a0.Pq a0.Bq) a1 (0 : Int) x_35.2.1 hy_40) (.cons (.t rfl) (.ren rfl) (.cons (.t rfl) (.ren rfl) (.cons (.const _ _ _) (.ren rfl) (.cons (.t rfl) (.ren rfl) (.nil))))) rfl)<| .cons (.lss (l1 rfl) (.t rfl) (.t rfl))<| .cons (.assign (l1 rfl) (.t rfl))<| .nil _ _ _) ⟨[(1,rW β3 a1 eW),(2,.ptr 1 0),(6,iW (a0.Pq.length : Int)),(7,.own 2 1 0 l2_37.length),(8,iW x_35.1),(9,iW x_35.2.1),(10,iW (0 : Int)),(11,iW x_35.2.2.1),(72,bW (decide (y_38 < y_40)))],[(2,⟨3,true,l2_37.flatMap eW⟩),(1,⟨25,false,(pW β1 β2 a0)⟩)]⟩ rfl rfl ?_
           refine AWP.join' (S := fun p_41 : Int => ⟨[(1,rW β3 a1 eW),(2,.ptr 1 0),(6,iW (a0.Pq.length : Int)),(7,.own 2 1 0 l2_37.length),(8,iW x_35.1),(9,iW p_41),(10,iW (0 : Int)),(11,iW x_35.2.2.1)],[(1,⟨25,false,(pW β1 β2 a0)⟩),(2,⟨3,true,l2_37.flatMap eW⟩)]⟩) h (fun p_41 h => ?_) (fun k_42 h => ?_)
           ·exact endJ (x_35.1,p_41) h (VC.sub (.of rfl) (.of rfl))
           ·refine AWP.cond (.t rfl) (fun hc => ?_) (fun hc => ?_)
            ·have h := iteT hc h
             refine AWP.rg (.cons (.move (l1 rfl) (.t rfl))<| .cons (.assign (l1 rfl) (.t rfl))<| .nil _ _ _) ?_
             exact endJ x_35.2.2.1 h (VC.sub (.of rfl) (.of rfl))
            ·have h := iteF hc h
             refine AWP.skip ?_
             exact endJ x_35.2.1 h (VC.sub (.of rfl) (.of rfl))
      ·have h := iteF hc h
       refine AWP.exit ?_
       exact endJ (x_35.1,x_35.2.1,x_35.2.2.2) h (VC.sub (.of rfl) (.of rfl))
    ·refine AWP.cond (.t rfl) (fun hc => ?_) (fun hc => ?_)
     ·have h := iteT hc h
      refine AWP.rg (.cons (.assign (l1 rfl) (.const _ _ _))<| .cons (.assign (l1 rfl) (.const _ _ _))<| .nil _ _ _) ?_
      exact endJ ((2 : Int),(1 : Int)) h (VC.sub (.of rfl) (.of rfl))
     ·have h := iteF hc h
      refine AWP.skip ?_
      exact endJ ((1 : Int),(2 : Int)) h (VC.sub (.of rfl) (.of rfl))
theorem c98 {β1 : Bool} {β2 : Bool} {β3 : Bool} {β4 : Bool} (n : Nat) (a0 : R75) (a1 : (List Int)) {r : Int} (h : m98 n a0 a1 = some r) : Spec Tryz.prog 98 [] [.agg (gW β1 β2 β3 a0.Gq a0.Path a0.Ln),rW β4 a1 eW] [] (iW r) [] := by
 refine Spec.of (fn := Tryz.f98) Tryz.func98 Tryz.ntmps98 rfl rfl (le1 rfl) (fun w0 Zs Zb T0 ι0 => ?_)
 unfold m98 at h
 refine AWP.sv (.cons (.box (t := 1) (n := 4) (l1 rfl) (nm rfl) (.t rfl) (by first | exact ⟨rfl,rfl⟩ | rfl) rfl)<| .cons (.assign (l1 rfl) (.const _ _ _))<| .nil _ _ _) ⟨[(1,rW β4 a1 eW),(2,.ptr 1 0)],[(1,⟨76,false,(gW β1 β2 β3 a0.Gq a0.Path a0.Ln)⟩)]⟩ rfl rfl ?_
 refine AWP.sv (.cons (.fieldP (l1 rfl) (.t rfl) fld76_0)<| .cons (.loadPA (l1 rfl) (.t rfl) agg25 rfl rfl rfl rfl)<| .cons (.alloc (t := 2) (k := ⟨25,false,[.sc (.slice none 0 0),.sc (.slice none 0 0)]⟩) (l1 rfl) (nm rfl) zero25 rfl rfl)<| .cons (.storePA (.t rfl) (.t rfl) sz25 rfl rfl (le1 rfl) (one_lit rfl) (by intro h; cases h) rfl)<| .nil _ _ _) ⟨[(1,rW β4 a1 eW),(2,.ptr 1 0),(5,.ptr 2 0)],[(2,⟨25,false,(pW β1 β2 a0.Gq)⟩),(1,⟨76,false,(gW β1 β2 β3 a0.Gq a0.Path a0.Ln)⟩)]⟩ rfl rfl ?_
 refine AWP.seq ?_
 refine AWP.sv (.cons (.fieldP (l1 rfl) (.t rfl) fld76_1)<| .cons (.loadP (l1 rfl) (.t rfl) one28 rfl rfl rfl)<| .cons (.lenRd (l1 rfl) (.t rfl) Tryz.underlying28)<| .nil _ _ _) ⟨[(1,rW β4 a1 eW),(2,.ptr 1 0),(5,.ptr 2 0),(16,iW (a0.Path.length : Int))],[(2,⟨25,false,(pW β1 β2 a0.Gq)⟩),(1,⟨76,false,(gW β1 β2 β3 a0.Gq a0.Path a0.Ln)⟩)]⟩ rfl rfl ?_
 refine AWP.block ?_
 refine AWP.sv (.cons (.fieldP (l1 rfl) (.t rfl) fld25_0)<| .cons (.loadP (l1 rfl) (.t rfl) one22 rfl rfl rfl)<| .cons (.lenRd (l1 rfl) (.t rfl) Tryz.underlying22)<| .cons (.eql (l1 rfl) (.t rfl) (.t rfl))<| .cons (.assign (l1 rfl) (.t rfl))<| .nil _ _ _) ⟨[(1,rW β4 a1 eW),(2,.ptr 1 0),(5,.ptr 2 0),(16,iW (a0.Path.length : Int)),(17,bW (decide ((a0.Path.length : Int) = (a0.Gq.Pq.length : Int))))],[(2,⟨25,false,(pW β1 β2 a0.Gq)⟩),(1,⟨76,false,(gW β1 β2 β3 a0.Gq a0.Path a0.Ln)⟩)]⟩ rfl rfl ?_
 refine AWP.cond (.t rfl) (fun hc => ?_) (fun hc => ?_)
 ·have h := iteT hc h
  obtain ⟨y_1,hy_1,h⟩ := bindS h
  refine AWP.sr (.cons (.loadPA (l1 rfl) (.t rfl) agg25 rfl rfl rfl rfl)<| .cons (.fieldP (l1 rfl) (.t rfl) fld76_1)<| .cons (.loadP (l1 rfl) (.t rfl) one28 rfl rfl rfl)<| .cons (.call0 (bw := false) (l1 rfl) (c59 (β1 := β1) (β2 := β2) (β3 := β3) n (R24.mk a0.Gq.Pq a0.Gq.Bq) a0.Path hy_1) (.cons (.t rfl) (.ren rfl) (.cons (.t rfl) (.ren rfl) (.nil))) rfl)<| .cons (.assign (l1 rfl) (.t rfl))<| .nil _ _ _) ?_
  refine AWP.ret ?_
  obtain rfl := Option.some.inj h
  refine retJ (Res.vc (s' := ⟨[(4,iW y_1)],[]⟩) (VC.sub (.of rfl) (.n _)) ?_)
  refine Res.drop (H := []) rfl ?_
  exact Res.of rfl (.cons (.tmp rfl) (.nil)) rfl rfl
 ·have h := iteF hc h
  refine AWP.sv (.cons (.eql (l1 rfl) (.t rfl) (.const _ _ _))<| .cons (.assign (l1 rfl) (.t rfl))<| .nil _ _ _) ⟨[(1,rW β4 a1 eW),(2,.ptr 1 0),(5,.ptr 2 0),(26,bW (decide ((a0.Path.length : Int) = (1 : Int))))],[(2,⟨25,false,(pW β1 β2 a0.Gq)⟩),(1,⟨76,false,(gW β1 β2 β3 a0.Gq a0.Path a0.Ln)⟩)]⟩ rfl rfl ?_
  refine AWP.cond (.t rfl) (fun hc => ?_) (fun hc => ?_)
  ·have h := iteT hc h
   obtain ⟨y_2,hy_2,h⟩ := bindS h
   refine AWP.sv (.cons (.loadPA (l1 rfl) (.t rfl) agg25 rfl rfl rfl rfl)<| .cons (.move (l1 rfl) (.t rfl))<| .cons (.call0 (bw := false) (l1 rfl) (c103 (β1 := β1) (β2 := β2) (β3 := β4) n (R24.mk a0.Gq.Pq a0.Gq.Bq) a1 hy_2) (.cons (.t rfl) (.ren rfl) (.cons (.t rfl) (.ren rfl) (.nil))) rfl)<| .cons (.move (l1 rfl) (.t rfl))<| .cons (.extract (l1 rfl) (.t rfl) rfl)<| .cons (.extract (l1 rfl) (.t rfl) rfl)<| .cons (.assign (l1 rfl) (.t rfl))<| .cons (.assign (l1 rfl) (.t rfl))<| .nil _ _ _) ⟨[(6,iW y_2.1)],[]⟩ rfl rfl ?_
   refine AWP.sr (.cons (.move (l1 rfl) (.t rfl))<| .cons (.assign (l1 rfl) (.t rfl))<| .nil _ _ _) ?_
   refine AWP.ret ?_
   obtain rfl := Option.some.inj h
   refine retJ (Res.vc (s' := ⟨[(4,iW y_2.1)],[]⟩) (VC.sub (.of rfl) (.n _)) ?_)
   refine Res.drop (H := []) rfl ?_
   exact Res.of rfl (.cons (.tmp rfl) (.nil)) rfl rfl
  ·have h := iteF hc h
   refine AWP.skip ?_
   obtain ⟨y_3,hy_3,h⟩ := bindS h
   refine AWP.sv (.cons (.fieldP (l1 rfl) (.t rfl) fld76_1)<| .cons (.loadP (l1 rfl) (.t rfl) one28 rfl rfl rfl)<| .cons (.fieldP (l1 rfl) (.t rfl) fld76_1)<| .cons (.loadP (l1 rfl) (.t rfl) one28 rfl rfl rfl)<| .cons (.lenRd (l1 rfl) (.t rfl) Tryz.underlying28)<| .cons (.sub (l1 rfl) (.t rfl) (.const _ _ _))<| .cons (.indexRd (enc := eW) (l1 rfl) (.t rfl) (.t rfl) Tryz.underlying28 sz3 (encI_len .i64) rfl hy_3)<| .cons (.loadR (v := iW y_3) (l1 rfl) (.t rfl) one3 rfl)<| .cons (.assign (l1 rfl) (.t rfl))<| .nil _ _ _) ⟨[(1,rW β4 a1 eW),(2,.ptr 1 0),(5,.ptr 2 0),(8,iW y_3)],[(2,⟨25,false,(pW β1 β2 a0.Gq)⟩),(1,⟨76,false,(gW β1 β2 β3 a0.Gq a0.Path a0.Ln)⟩)]⟩ rfl rfl ?_
   obtain ⟨l3_4,hl3_4,h⟩ := letS h
   refine AWP.sr (.cons (.move (l1 rfl) (.t rfl))<| .cons (.buildSlice (t := 3) (out := ([y_3,(0 : Int)] : List Int).flatMap eW) (l1 rfl) (nm rfl) (.cons (.t rfl) (by first | exact ⟨rfl,rfl⟩ | rfl) (.cons (.const _ _ _) (by first | exact ⟨rfl,rfl⟩ | rfl) (.nil))) Tryz.underlying28 zero3 el3 (by decide) (by decide) rfl (still_all (encI_still .i64) _))<| .cons (.assign (l1 rfl) (.t rfl))<| .nil _ _ _) ?_
   refine AWP.vc (s' := ⟨[(1,rW β4 a1 eW),(2,.ptr 1 0),(5,.ptr 2 0),(8,iW y_3),(9,.own 3 1 0 l3_4.length)],[(3,⟨3,true,l3_4.flatMap eW⟩),(2,⟨25,false,(pW β1 β2 a0.Gq)⟩),(1,⟨76,false,(gW β1 β2 β3 a0.Gq a0.Path a0.Ln)⟩)]⟩) (by subst hl3_4; exact VC.sub (.of rfl) (.of rfl)) ?_
   refine AWP.seq ?_
   obtain ⟨y_5,hy_5,h⟩ := bindS h
   obtain ⟨y_6,hy_6,h⟩ := bindS h
   obtain ⟨t10_7,ht10_7,h⟩ := letS h
   refine AWP.dw mixed [(1,rW β4 a1 eW),(2,.ptr 1 0),(5,.ptr 2 0),(8,iW y_3),(9,.own 3 1 0 l3_4.length)] [] [dO [0] 45 (rW β4 a1 eW),dO [3] 46 (iW y_3),dO [5,6] 47 (.rptr β4 [iW y_5]),dO [7] 48 (iW y_5),dO [0] 49 (rW β4 a1 eW),dO [9] 50 (.rptr β4 [iW y_6]),dO [10] 51 (iW y_6),dO [8,11] 52 (iW (IntKind.wrap .i64 (y_5 + y_6))),dO [12] 10 (iW (IntKind.wrap .i64 (y_5 + y_6)))] [] [[(3,⟨3,true,l3_4.flatMap eW⟩),(2,⟨25,false,(pW β1 β2 a0.Gq)⟩),(1,⟨76,false,(gW β1 β2 β3 a0.Gq a0.Path a0.Ln)⟩)]] [[],[],[0,2],[0,3],[],[4,5],[4,6],[0,7],[0,8]] [0,1,2,4,13] rfl rfl (by kernel_rfl) rfl (.p rfl (fun _ q _ => .move (l1 rfl) (q.t 0 rfl))<| .p rfl (fun _ q _ => .move (l1 rfl) (q.t 0 rfl))<| .p rfl (fun _ q _ => .indexRd (enc := eW) (l1 rfl) (q.t 0 rfl) (q.t 1 rfl) Tryz.underlying28 sz3 (encI_len .i64) rfl hy_5)<| .p rfl (fun _ q _ => .loadR (v := iW y_5) (l1 rfl) (q.t 0 rfl) one3 rfl)<| .p rfl (fun _ q _ => .move (l1 rfl) (q.t 0 rfl))<| .p rfl (fun _ q _ => .indexRd (enc := eW) (l1 rfl) (q.t 0 rfl) (.const _ _ _) Tryz.underlying28 sz3 (encI_len .i64) rfl hy_6)<| .p rfl (fun _ q _ => .loadR (v := iW y_6) (l1 rfl) (q.t 0 rfl) one3 rfl)<| .p rfl (fun _ q _ => .add (l1 rfl) (q.t 0 rfl) (q.t 1 rfl))<| .p rfl (fun _ q _ => .assign (l1 rfl) (q.t 0 rfl))<| .nil _) rfl rfl ?_
   refine AWP.vc (s' := ⟨[(1,rW β4 a1 eW),(2,.ptr 1 0),(5,.ptr 2 0),(9,.own 3 1 0 l3_4.length),(10,iW t10_7)],[(3,⟨3,true,l3_4.flatMap eW⟩),(2,⟨25,false,(pW β1 β2 a0.Gq)⟩),(1,⟨76,false,(gW β1 β2 β3 a0.Gq a0.Path a0.Ln)⟩)]⟩) (by subst ht10_7; exact VC.sub (.of rfl) (.of rfl)) ?_
   refine AWP.seq ?_
   refine AWP.sv (.cons (.assign (l1 rfl) (.const _ _ _))<| .nil _ _ _) ⟨[(1,rW β4 a1 eW),(2,.ptr 1 0),(5,.ptr 2 0),(9,.own 3 1 0 l3_4.length),(10,iW t10_7),(11,iW (0 : Int))],[(3,⟨3,true,l3_4.flatMap eW⟩),(2,⟨25,false,(pW β1 β2 a0.Gq)⟩),(1,⟨76,false,(gW β1 β2 β3 a0.Gq a0.Path a0.Ln)⟩)]⟩ rfl rfl ?_
   refine AWP.joinB' (S := fun p_33 : Int × (List Int) => ⟨[(1,rW β4 a1 eW),(2,.ptr 1 0),(5,.ptr 2 0),(9,.own 3 1 0 p_33.2.length),(10,iW p_33.1)],[(1,⟨76,false,(gW β1 β2 β3 a0.Gq a0.Path a0.Ln)⟩),(2,⟨25,false,(pW β1 β2 a0.Gq)⟩),(3,⟨3,true,p_33.2.flatMap eW⟩)]⟩) h (fun p_33 h => ?_) (fun k_34 h => ?_)
   ·refine AWP.seq ?_
    obtain ⟨y_35,hy_35,h⟩ := bindS h
    obtain ⟨y_36,hy_36,h⟩ := bindS h
    obtain ⟨t4_37,ht4_37,h⟩ := letS h
    refine AWP.dw mixed [(1,rW β4 a1 eW),(2,.ptr 1 0),(5,.ptr 2 0),(9,.own 3 1 0 p_33.2.length),(10,iW p_33.1)] [] [dO [2] 76 (.agg (pW β1 β2 a0.Gq)),dO [1] 77 (.ptr 1 (0 + 2)),dO [6] 78 (rW β3 a0.Path eW),dO [5,7] 79 (iW y_35),dO [2] 80 (.agg (pW β1 β2 a0.Gq)),dO [0] 81 (rW β4 a1 eW),dO [3] 82 (.own 3 1 0 p_33.2.length),dO [9,10,11] 83 (iW y_36),dO [8,12] 84 (iW (IntKind.wrap .i64 (y_35 + y_36))),dO [4] 85 (iW p_33.1),dO [13,14] 86 (iW (IntKind.wrap .i64 ((IntKind.wrap .i64 (y_35 + y_36)) - p_33.1))),dO [15] 4 (iW (IntKind.wrap .i64 ((IntKind.wrap .i64 (y_35 + y_36)) - p_33.1)))] [] [[(1,⟨76,false,(gW β1 β2 β3 a0.Gq a0.Path a0.Ln)⟩),(2,⟨25,false,(pW β1 β2 a0.Gq)⟩),(3,⟨3,true,p_33.2.flatMap eW⟩)]] [[],[],[1,2],[0,3],[],[],[],[0,7],[0,8],[],[0,10],[0,11]] [16] rfl rfl (by kernel_rfl) rfl (.r rfl rfl (fun _ q => .loadPA (l1 rfl) (q.t 0 rfl) agg25 rfl rfl rfl rfl)<| .r rfl rfl (fun _ q => .fieldP (l1 rfl) (q.t 0 rfl) fld76_1)<| .r rfl rfl (fun _ q => .loadP (l1 rfl) (q.t 0 rfl) one28 rfl rfl rfl)<| .p rfl (fun _ q _ => .call0 (bw := false) (l1 rfl) (c82 (β1 := β1) (β2 := β2) (β3 := β3) n (R24.mk a0.Gq.Pq a0.Gq.Bq) a0.Path hy_35) (.cons (q.t 0 rfl) (.ren rfl) (.cons (q.t 1 rfl) (.ren rfl) (.nil))) rfl)<| .r rfl rfl (fun _ q => .loadPA (l1 rfl) (q.t 0 rfl) agg25 rfl rfl rfl rfl)<| .p rfl (fun _ q _ => .move (l1 rfl) (q.t 0 rfl))<| .r rfl rfl (fun _ q => .move (l1 rfl) (q.t 0 rfl))<| .r rfl rfl (fun _ q => .call0 (bw := true) (l1 rfl) (c104 (β1 := β1) (β2 := β2) (β3 := β4) (β4 := true) n (R24.mk a0.Gq.Pq a0.Gq.Bq) a1 p_33.2 hy_36) (.cons (q.t 0 rfl) (.ren rfl) (.cons (q.t 1 rfl) (.ren rfl) (.cons (q.t 2 rfl) (.lendRow rfl rfl (encI_len .i64) rfl) (.nil)))) rfl)<| .p rfl (fun _ q _ => .add (l1 rfl) (q.t 0 rfl) (q.t 1 rfl))<| .p rfl (fun _ q _ => .move (l1 rfl) (q.t 0 rfl))<| .p rfl (fun _ q _ => .sub (l1 rfl) (q.t 0 rfl) (q.t 1 rfl))<| .p rfl (fun _ q _ => .assign (l1 rfl) (q.t 0 rfl))<| .nil _) rfl rfl ?_
    refine AWP.ret ?_
    obtain rfl := Option.some.inj h
    refine retJ (Res.vc (s' := ⟨[(4,iW t4_37)],[]⟩) (by subst ht4_37; exact VC.sub (.of rfl) (.n _)) ?_)
    refine Res.drop (H := []) rfl ?_
    exact Res.of rfl (.cons (.tmp rfl) (.nil)) rfl rfl
   ·refine AWP.vs ⟨[(1,rW β4 a1 eW),(2,.ptr 1 0),(5,.ptr 2 0),(9,.own 3 1 0 l3_4.length),(10,iW t10_7),(11,iW (0 : Int))],[(1,⟨76,false,(gW β1 β2 β3 a0.Gq a0.Path a0.Ln)⟩),(2,⟨25,false,(pW β1 β2 a0.Gq)⟩),(3,⟨3,true,l3_4.flatMap eW⟩)]⟩ rfl rfl ?_
    refine AWP.loopM (S := fun x_24 : Int × Int × (List Int) => ⟨[(1,rW β4 a1 eW),(2,.ptr 1 0),(5,.ptr 2 0),(9,.own 3 1 0 x_24.2.2.length),(10,iW x_24.1),(11,iW x_24.2.1)],[(1,⟨76,false,(gW β1 β2 β3 a0.Gq a0.Path a0.Ln)⟩),(2,⟨25,false,(pW β1 β2 a0.Gq)⟩),(3,⟨3,true,x_24.2.2.flatMap eW⟩)]⟩) (x := (t10_7,(0 : Int),l3_4)) (fun nx_25 x_24 h => ?_) h
    unfold m98_L1 at h
    refine AWP.seq ?_
    refine AWP.sv (.cons (.move (l1 rfl) (.t rfl))<| .cons (.fieldP (l1 rfl) (.t rfl) fld25_0)<| .cons (.loadP (l1 rfl) (.t rfl) one22 rfl rfl rfl)<| .cons (.lenRd (l1 rfl) (.t rfl) Tryz.underlying22)<| .cons (.lss (l1 rfl) (.t rfl) (.t rfl))<| .nil _ _ _) ⟨[(1,rW β4 a1 eW),(2,.ptr 1 0),(5,.ptr 2 0),(9,.own 3 1 0 x_24.2.2.length),(10,iW x_24.1),(11,iW x_24.2.1),(57,bW (decide (x_24.2.1 < (a0.Gq.Pq.length : Int))))],[(1,⟨76,false,(gW β1 β2 β3 a0.Gq a0.Path a0.Ln)⟩),(2,⟨25,false,(pW β1 β2 a0.Gq)⟩),(3,⟨3,true,x_24.2.2.flatMap eW⟩)]⟩ rfl rfl ?_
    refine AWP.cond (.t rfl) (fun hc => ?_) (fun hc => ?_)
    ·have h := iteT hc h
     refine AWP.skip ?_
     refine AWP.seq ?_
     refine AWP.block ?_
     obtain ⟨y_26,hy_26,h⟩ := bindS h
     refine AWP.sv (.cons (.fieldP (l1 rfl) (.t rfl) fld76_1)<| .cons (.loadP (l1 rfl) (.t rfl) one28 rfl rfl rfl)<| .cons (.move (l1 rfl) (.t rfl))<| .cons (.call0 (bw := false) (l1 rfl) (c57 (β1 := β3) n a0.Path x_24.2.1 hy_26) (.cons (.t rfl) (.ren rfl) (.cons (.t rfl) (.ren rfl) (.nil))) rfl)<| .cons (.not (l1 rfl) (.t rfl))<| .nil _ _ _) ⟨[(1,rW β4 a1 eW),(2,.ptr 1 0),(5,.ptr 2 0),(9,.own 3 1 0 x_24.2.2.length),(10,iW x_24.1),(11,iW x_24.2.1),(64,bW (!y_26))],[(1,⟨76,false,(gW β1 β2 β3 a0.Gq a0.Path a0.Ln)⟩),(2,⟨25,false,(pW β1 β2 a0.Gq)⟩),(3,⟨3,true,x_24.2.2.flatMap eW⟩)]⟩ rfl rfl ?_
     refine AWP.join' (S := fun p_30 : Int × (List Int) => ⟨[(1,rW β4 a1 eW),(2,.ptr 1 0),(5,.ptr 2 0),(9,.own 3 1 0 p_30.2.length),(10,iW p_30.1),(11,iW x_24.2.1)],[(1,⟨76,false,(gW β1 β2 β3 a0.Gq a0.Path a0.Ln)⟩),(2,⟨25,false,(pW β1 β2 a0.Gq)⟩),(3,⟨3,true,p_30.2.flatMap eW⟩)]⟩) h (fun p_30 h => ?_) (fun k_31 h => ?_)
     ·obtain ⟨t11_32,ht11_32,h⟩ := letS h
      refine AWP.rg (.cons (.move (l1 rfl) (.t rfl))<| .cons (.add (l1 rfl) (.t rfl) (.const _ _ _))<| .cons (.assign (l1 rfl) (.t rfl))<| .nil _ _ _) ?_
      exact endJ (p_30.1,t11_32,p_30.2) h (by subst ht11_32; exact VC.sub (.of rfl) (.of rfl))
     ·refine AWP.cond (.t rfl) (fun hc => ?_) (fun hc => ?_)
      ·have h := iteT hc h
       obtain ⟨l3_27,hl3_27,h⟩ := bindS h
       refine AWP.sv (.cons (.move (l1 rfl) (.t rfl))<| .cons (.move (l1 rfl) (.t rfl))<| .cons (.buildSlice (t := 4) (out := ([x_24.2.1] : List Int).flatMap eW) (l1 rfl) (nm rfl) (.cons (.t rfl) (by first | exact ⟨rfl,rfl⟩ | rfl) (.nil)) Tryz.underlying28 zero3 el3 (by decide) (by decide) rfl (still_all (encI_still .i64) _))<| .cons (.app (enc := eW) (l1 rfl) (nm rfl) (.t rfl) (Src.own (.t rfl) rfl (lendAll (encI_len .i64) _) (flatMap_length (encI_len .i64) _) (one_all (encI_one .i64) _) (.inl rfl)) Tryz.underlying28 ⟨_,Tryz.underlying28,by intro k hk; cases hk⟩ el3 rfl (encI_len .i64) rfl rfl (by decide) hl3_27)<| .cons (.assign (l1 rfl) (.t rfl))<| .nil _ _ _) ⟨[(1,rW β4 a1 eW),(2,.ptr 1 0),(5,.ptr 2 0),(9,.own 3 1 0 l3_27.length),(10,iW x_24.1),(11,iW x_24.2.1)],[(3,⟨3,true,l3_27.flatMap eW⟩),(1,⟨76,false,(gW β1 β2 β3 a0.Gq a0.Path a0.Ln)⟩),(2,⟨25,false,(pW β1 β2 a0.Gq)⟩)]⟩ rfl rfl ?_
       obtain ⟨y_28,hy_28,h⟩ := bindS h
       obtain ⟨t10_29,ht10_29,h⟩ := letS h
       refine AWP.rg (.cons (.move (l1 rfl) (.t rfl))<| .cons (.move (l1 rfl) (.t rfl))<| .cons (.move (l1 rfl) (.t rfl))<| .cons (.indexRd (enc := eW) (l1 rfl) (.t rfl) (.t rfl) Tryz.underlying28 sz3 (encI_len .i64) rfl hy_28)<| .cons (.loadR (v := iW y_28) (l1 rfl) (.t rfl) one3 rfl)<| .cons (.mul (l1 rfl) (.const _ _ _) (.t rfl))<| .cons (.add (l1 rfl) (.t rfl) (.t rfl))<| .cons (.assign (l1 rfl) (.t rfl))<| .nil _ _ _) ?_
       exact endJ (t10_29,l3_27) h (by subst ht10_29; exact VC.sub (.of rfl) (.of rfl))
      ·have h := iteF hc h
       refine AWP.skip ?_
       exact endJ (x_24.1,x_24.2.2) h (VC.sub (.of rfl) (.of rfl))
    ·have h := iteF hc h
     refine AWP.exit ?_
     exact endJ (x_24.1,x_24.2.2) h (VC.sub (.of rfl) (.of rfl))
theorem c87 {β1 : Bool} {β2 : Bool} {β3 : Bool} {β4 : Bool} (n : Nat) (a0 : R75) (a1 : (List Int)) {r : Bool} (h : m87 n a0 a1 = some r) : Spec Tryz.prog 87 [] [.agg (gW β1 β2 β3 a0.Gq a0.Path a0.Ln),rW β4 a1 eW] [] (bW r) [] := by
 refine Spec.of (fn := Tryz.f87) Tryz.func87 Tryz.ntmps87 rfl rfl (le1 rfl) (fun w0 Zs Zb T0 ι0 => ?_)
 unfold m87 at h
 refine AWP.sv (.cons (.box (t := 1) (n := 4) (l1 rfl) (nm rfl) (.t rfl) (by first | exact ⟨rfl,rfl⟩ | rfl) rfl)<| .cons (.assign (l1 rfl) (.const _ _ _))<| .nil _ _ _) ⟨[(1,rW β4 a1 eW),(2,.ptr 1 0)],[(1,⟨76,false,(gW β1 β2 β3 a0.Gq a0.Path a0.Ln)⟩)]⟩ rfl rfl ?_
 refine AWP.seq ?_
 obtain ⟨y_1,hy_1,h⟩ := bindS h
 obtain ⟨y_2,hy_2,h⟩ := bindS h
 obtain ⟨y_3,hy_3,h⟩ := bindS h
 refine AWP.dw mixed [(1,rW β4 a1 eW),(2,.ptr 1 0)] [] [dO [1] 5 (.agg (gW β1 β2 β3 a0.Gq a0.Path a0.Ln)),dO [2] 6 (bW y_1),dO [3] 7 (bW y_1),dO [4,1] 8 (.gd y_1 (.ptr 1 (0 + 0))),dO [4,5] 9 (.gd y_1 (.agg (pW β1 β2 a0.Gq))),dO [4,0] 10 (.gd y_1 (rW β4 a1 eW)),dO [4,6,7] 11 (.gd y_1 (bW y_2)),dO [4,8] 12 (bW (y_1 && y_2)),dO [9] 13 (bW (y_1 && y_2)),dO [10,1] 14 (.gd (y_1 && y_2) (.ptr 1 (0 + 3))),dO [10,11] 15 (.gd (y_1 && y_2) (iW a0.Ln)),dO [10,1] 16 (.gd (y_1 && y_2) (.agg (gW β1 β2 β3 a0.Gq a0.Path a0.Ln))),dO [10,0] 17 (.gd (y_1 && y_2) (rW β4 a1 eW)),dO [10,13,14] 18 (.gd (y_1 && y_2) (iW y_3)),dO [10,12,15] 19 (.gd (y_1 && y_2) (bW (decide (a0.Ln ≤ y_3)))),dO [10,16] 20 (bW ((y_1 && y_2) && (decide (a0.Ln ≤ y_3)))),dO [17] 4 (bW ((y_1 && y_2) && (decide (a0.Ln ≤ y_3))))] [] [[(1,⟨76,false,(gW β1 β2 β3 a0.Gq a0.Path a0.Ln)⟩)]] [[],[0,1],[0,2],[0,3],[0,4],[0,3],[0,6],[0,7],[0,8],[0,9],[0,10],[0,9],[0,9],[0,9,11,13],[0,14],[0,15],[0,16]] [18] rfl rfl (by kernel_rfl) rfl (.r rfl rfl (fun _ q => .loadPA (l1 rfl) (q.t 0 rfl) agg76 rfl rfl rfl rfl)<| .p rfl (fun _ q _ => .call0 (bw := false) (l1 rfl) (c60 (β1 := β1) (β2 := β2) (β3 := β3) n (R75.mk (R24.mk a0.Gq.Pq a0.Gq.Bq) a0.Path a0.Ln) hy_1) (.cons (q.t 0 rfl) (.ren rfl) (.nil)) rfl)<| .p rfl (fun _ q _ => .move (l1 rfl) (q.t 0 rfl))<| .rt rfl rfl rfl rfl rfl rfl (fun hg _ q => .fieldP (l1 rfl) (q.t 1 rfl) fld76_0)<| .rt rfl rfl rfl rfl rfl rfl (fun hg _ q => .loadPA (l1 rfl) (.gd hg (q.t 1 rfl)) agg25 rfl rfl rfl rfl)<| .gt rfl rfl rfl rfl rfl (fun hg _ q _ => .move (l1 rfl) (q.t 1 rfl))<| .gt rfl rfl rfl rfl rfl (fun hg _ q _ => .call0 (bw := false) (l1 rfl) (c97 (β1 := β1) (β2 := β2) (β3 := β4) n (R24.mk a0.Gq.Pq a0.Gq.Bq) a1 (gdB hy_2 hg)) (.cons (.gd hg (q.t 1 rfl)) (.ren rfl) (.cons (.gd hg (q.t 2 rfl)) (.ren rfl) (.nil))) rfl)<| .p rfl (fun _ q _ => .pickAnd (l1 rfl) (q.t 0 rfl) (q.t 1 rfl) (.const _ _ _))<| .p rfl (fun _ q _ => .move (l1 rfl) (q.t 0 rfl))<| .rt rfl rfl rfl rfl rfl rfl (fun hg _ q => .fieldP (l1 rfl) (q.t 1 rfl) fld76_2)<| .rt rfl rfl rfl rfl rfl rfl (fun hg _ q => .loadP (l1 rfl) (.gd hg (q.t 1 rfl)) one3 rfl rfl rfl)<| .rt rfl rfl rfl rfl rfl rfl (fun hg _ q => .loadPA (l1 rfl) (q.t 1 rfl) agg76 rfl rfl rfl rfl)<| .gt rfl rfl rfl rfl rfl (fun hg _ q _ => .move (l1 rfl) (q.t 1 rfl))<| .gt rfl rfl rfl rfl rfl (fun hg _ q _ => .call0 (bw := false) (l1 rfl) (c98 (β1 := β1) (β2 := β2) (β3 := β3) (β4 := β4) n (R75.mk (R24.mk a0.Gq.Pq a0.Gq.Bq) a0.Path a0.Ln) a1 (gdB hy_3 hg)) (.cons (.gd hg (q.t 1 rfl)) (.ren rfl) (.cons (.gd hg (q.t 2 rfl)) (.ren rfl) (.nil))) rfl)<| .gt rfl rfl rfl rfl rfl (fun hg _ q _ => .leq (l1 rfl) (.gd hg (q.t 1 rfl)) (.gd hg (q.t 2 rfl)))<| .p rfl (fun _ q _ => .pickAnd (l1 rfl) (q.t 0 rfl) (q.t 1 rfl) (.const _ _ _))<| .p rfl (fun _ q _ => .assign (l1 rfl) (q.t 0 rfl))<| .nil _) rfl rfl ?_
 refine AWP.ret ?_
 obtain rfl := Option.some.inj h
 refine retJ (Res.vc (s' := ⟨[(4,bW ((y_1 && y_2) && (decide (a0.Ln ≤ y_3))))],[]⟩) (VC.sub (.of rfl) (.n _)) ?_)
 refine Res.drop (H := []) rfl ?_
 exact Res.of rfl (.cons (.tmp rfl) (.nil)) rfl rfl
theorem c88 {β3 : Bool} (n : Nat) (a0 : R75) (a1 : Int) {r : ((List R75) × Bool)} (h : m88 n a0 a1 = some r) : Spec Tryz.prog 88 [] [.agg (gW false false β3 a0.Gq a0.Path a0.Ln),iW a1] [] (.tup [rW false r.1 encR75,bW r.2]) [] := by
 refine Spec.of (fn := Tryz.f88) Tryz.func88 Tryz.ntmps88 rfl rfl (le1 rfl) (fun w0 Zs Zb T0 ι0 => ?_)
 unfold m88 at h
 refine AWP.sv (.cons (.box (t := 1) (n := 4) (l1 rfl) (nm rfl) (.t rfl) (by first | exact ⟨rfl,rfl⟩ | rfl) rfl)<| .cons (.assign (l1 rfl) (.const _ _ _))<| .cons (.assign (l1 rfl) (.const _ _ _))<| .nil _ _ _) ⟨[(1,iW a1),(2,.ptr 1 0)],[(1,⟨76,false,(gW false false β3 a0.Gq a0.Path a0.Ln)⟩)]⟩ rfl rfl ?_
 refine AWP.seq ?_
 obtain ⟨y_1,hy_1,h⟩ := bindS h
 refine AWP.sv (.cons (.loadPA (l1 rfl) (.t rfl) agg76 rfl rfl rfl rfl)<| .cons (.call0 (bw := false) (l1 rfl) (c60 (β1 := false) (β2 := false) (β3 := β3) n (R75.mk (R24.mk a0.Gq.Pq a0.Gq.Bq) a0.Path a0.Ln) hy_1) (.cons (.t rfl) (.ren rfl) (.nil)) rfl)<| .cons (.not (l1 rfl) (.t rfl))<| .cons (.move (l1 rfl) (.t rfl))<| .guard (j := 3) (dj := 12) rfl (l1 rfl) rfl (l1 rfl) (fun hg => .move (l1 rfl) (.t rfl))<| .guard (j := 3) (dj := 12) rfl (l1 rfl) rfl (l1 rfl) (fun hg => .neq (l1 rfl) (.gd hg (.t rfl)) (.const _ _ _))<| .cons (.pickOr (l1 rfl) (.t rfl) (.const _ _ _) (.t rfl))<| .cons (.move (l1 rfl) (.t rfl))<| .guard (j := 7) (dj := 16) rfl (l1 rfl) rfl (l1 rfl) (fun hg => .fieldP (l1 rfl) (.t rfl) fld76_1)<| .guard (j := 7) (dj := 16) rfl (l1 rfl) rfl (l1 rfl) (fun hg => .loadP (l1 rfl) (.gd hg (.t rfl)) one28 rfl rfl rfl)<| .guard (j := 7) (dj := 16) rfl (l1 rfl) rfl (l1 rfl) (fun hg => .lenRd (l1 rfl) (.gd hg (.t rfl)) Tryz.underlying28)<| .guard (j := 7) (dj := 16) rfl (l1 rfl) rfl (l1 rfl) (fun hg => .fieldP (l1 rfl) (.t rfl) fld76_0)<| .guard (j := 7) (dj := 16) rfl (l1 rfl) rfl (l1 rfl) (fun hg => .fieldP (l1 rfl) (.gd hg (.t rfl)) fld25_0)<| .guard (j := 7) (dj := 16) rfl (l1 rfl) rfl (l1 rfl) (fun hg => .loadP (l1 rfl) (.gd hg (.t rfl)) one22 rfl rfl rfl)<| .guard (j := 7) (dj := 16) rfl (l1 rfl) rfl (l1 rfl) (fun hg => .lenRd (l1 rfl) (.gd hg (.t rfl)) Tryz.underlying22)<| .guard (j := 7) (dj := 16) rfl (l1 rfl) rfl (l1 rfl) (fun hg => .eql (l1 rfl) (.gd hg (.t rfl)) (.gd hg (.t rfl)))<| .cons (.pickOr (l1 rfl) (.t rfl) (.const _ _ _) (.t rfl))<| .nil _ _ _) ⟨[(2,.ptr 1 0),(25,bW (((!y_1) || (!decide (a1 = (0 : Int)))) || (decide ((a0.Path.length : Int) = (a0.Gq.Pq.length : Int)))))],[(1,⟨76,false,(gW false false β3 a0.Gq a0.Path a0.Ln)⟩)]⟩ rfl rfl ?_
 refine AWP.cond (.t rfl) (fun hc => ?_) (fun hc => ?_)
 ·have h := iteT hc h
  refine AWP.sr (.cons (.assign (l1 rfl) (.const _ _ _))<| .cons (.assign (l1 rfl) (.const _ _ _))<| .nil _ _ _) ?_
  refine AWP.ret ?_
  obtain rfl := Option.some.inj h
  refine retJ (Res.vc (s' := ⟨[(4,rW false ([] : List R75) encR75),(5,bW false)],[]⟩) (VC.trans (VC.nilRd (d := 4) false rfl) (VC.sub (.of rfl) (.n _))) ?_)
  refine Res.drop (H := []) rfl ?_
  exact Res.of rfl (.cons (.tmp rfl) (.cons (.tmp rfl) (.nil))) rfl rfl
 ·have h := iteF hc h
  refine AWP.skip ?_
  refine AWP.sv (.cons (.assign (l1 rfl) (.const _ _ _))<| .nil _ _ _) ⟨[(2,.ptr 1 0),(6,.sc (.slice none 0 0))],[(1,⟨76,false,(gW false false β3 a0.Gq a0.Path a0.Ln)⟩)]⟩ rfl rfl ?_
  obtain ⟨y_2,hy_2,h⟩ := bindS h
  refine AWP.sv (.cons (.fieldP (l1 rfl) (.t rfl) fld76_0)<| .cons (.loadPA (l1 rfl) (.t rfl) agg25 rfl rfl rfl rfl)<| .cons (.fieldP (l1 rfl) (.t rfl) fld76_1)<| .cons (.loadP (l1 rfl) (.t rfl) one28 rfl rfl rfl)<| .cons (.call0 (bw := false) (l1 rfl) (c25 (β1 := false) (β2 := false) (β3 := β3) n (R24.mk a0.Gq.Pq a0.Gq.Bq) a0.Path hy_2) (.cons (.t rfl) (.ren rfl) (.cons (.t rfl) (.ren rfl) (.nil))) rfl)<| .cons (.assign (l1 rfl) (.t rfl))<| .nil _ _ _) ⟨[(2,.ptr 1 0),(6,.sc (.slice none 0 0)),(7,rW false y_2 eW)],[(1,⟨76,false,(gW false false β3 a0.Gq a0.Path a0.Ln)⟩)]⟩ rfl rfl ?_
  refine AWP.seq ?_
  refine AWP.sv (.cons (.assign (l1 rfl) (.const _ _ _))<| .nil _ _ _) ⟨[(2,.ptr 1 0),(6,.sc (.slice none 0 0)),(7,rW false y_2 eW),(8,iW (0 : Int))],[(1,⟨76,false,(gW false false β3 a0.Gq a0.Path a0.Ln)⟩)]⟩ rfl rfl ?_
  refine AWP.joinB' (S := fun p_22 : (List R75) => ⟨[(6,.own 2 4 0 p_22.length)],[(2,⟨76,true,p_22.flatMap encR75⟩)]⟩) h (fun p_22 h => ?_) (fun k_23 h => ?_)
  ·refine AWP.sr (.cons (.move (l1 rfl) (.t rfl))<| .cons (.assign (l1 rfl) (.t rfl))<| .cons (.assign (l1 rfl) (.const _ _ _))<| .nil _ _ _) ?_
   refine AWP.ret ?_
   obtain rfl := Option.some.inj h
   refine retJ (Res.vc (s' := ⟨[(4,rW false p_22 encR75),(5,bW true)],[]⟩) (VC.trans (VC.frz (d := 4) (t := 2) rfl rfl encR75_len) (VC.sub (.of rfl) (.n _))) ?_)
   refine Res.drop (H := []) rfl ?_
   exact Res.of rfl (.cons (.tmp rfl) (.cons (.tmp rfl) (.nil))) rfl rfl
  ·refine AWP.vc (VC.nilOwn (d := 6) (t := 2) (sz := 4) (E := 76) rfl (nm rfl)) ?_
   refine AWP.vs ⟨[(2,.ptr 1 0),(6,.own 2 4 0 ([] : List R75).length),(7,rW false y_2 eW),(8,iW (0 : Int))],[(1,⟨76,false,(gW false false β3 a0.Gq a0.Path a0.Ln)⟩),(2,⟨76,true,([] : List R75).flatMap encR75⟩)]⟩ rfl rfl ?_
   refine AWP.loopM (S := fun x_15 : Int × (List R75) => ⟨[(2,.ptr 1 0),(6,.own 2 4 0 x_15.2.length),(7,rW false y_2 eW),(8,iW x_15.1)],[(1,⟨76,false,(gW false false β3 a0.Gq a0.Path a0.Ln)⟩),(2,⟨76,true,x_15.2.flatMap encR75⟩)]⟩) (x := ((0 : Int),([] : List R75))) (fun nx_16 x_15 h => ?_) h
   unfold m88_L1 at h
   refine AWP.seq ?_
   refine AWP.sv (.cons (.move (l1 rfl) (.t rfl))<| .cons (.move (l1 rfl) (.t rfl))<| .cons (.lenRd (l1 rfl) (.t rfl) Tryz.underlying28)<| .cons (.lss (l1 rfl) (.t rfl) (.t rfl))<| .nil _ _ _) ⟨[(2,.ptr 1 0),(6,.own 2 4 0 x_15.2.length),(7,rW false y_2 eW),(8,iW x_15.1),(34,bW (decide (x_15.1 < (y_2.length : Int))))],[(1,⟨76,false,(gW false false β3 a0.Gq a0.Path a0.Ln)⟩),(2,⟨76,true,x_15.2.flatMap encR75⟩)]⟩ rfl rfl ?_
   refine AWP.cond (.t rfl) (fun hc => ?_) (fun hc => ?_)
   ·have h := iteT hc h
    refine AWP.skip ?_
    refine AWP.seq ?_
    refine AWP.block ?_
    obtain ⟨l3_17,hl3_17,h⟩ := bindS h
    obtain ⟨y_18,hy_18,h⟩ := bindS h
    obtain ⟨l3_19,hl3_19,h⟩ := bindS h
    obtain ⟨l2_20,hl2_20,h⟩ := bindS h
    refine AWP.dw mixed [(2,.ptr 1 0),(6,.own 2 4 0 x_15.2.length),(7,rW false y_2 eW),(8,iW x_15.1),(34,bW (decide (x_15.1 < (y_2.length : Int))))] [(1,[17,18]),(5,[17]),(8,[6,12]),(11,[12])] [⟨[1],0,3,some (37,.own 2 4 0 x_15.2.length),[]⟩,⟨[0],0,3,some (38,.ptr 1 (0 + 0)),[]⟩,⟨[6],0,3,some (39,.agg (pW false false a0.Gq)),[]⟩,⟨[],0,0,some (40,.own 3 1 0 ([] : List Int).length),[3]⟩,⟨[0],0,1,some (41,.ptr 1 (0 + 2)),[]⟩,⟨[9],0,1,some (42,rW β3 a0.Path eW),[]⟩,⟨[8,10],1,1,some (43,.own 3 1 0 l3_17.length),[3]⟩,⟨[2],0,4,some (44,rW false y_2 eW),[]⟩,⟨[3],0,4,some (45,iW x_15.1),[]⟩,⟨[12,13],0,4,some (46,.rptr false [iW y_18]),[]⟩,⟨[14],0,4,some (47,iW y_18),[]⟩,⟨[15],0,4,some (48,rW false ([y_18] : List Int) eW),[]⟩,⟨[11,16],2,2,some (49,rW false l3_19 eW),[3]⟩,⟨[0],0,3,some (50,.ptr 1 (0 + 3)),[]⟩,⟨[18],0,3,some (51,iW a0.Ln),[]⟩,⟨[7,17,19],0,4,some (52,.agg [rW false a0.Gq.Pq e50,rW false a0.Gq.Bq e71,rW false l3_19 eW,iW a0.Ln]),[]⟩,⟨[20],0,4,some (53,rW false ([(R75.mk (R24.mk a0.Gq.Pq a0.Gq.Bq) l3_19 a0.Ln)] : List R75) encR75),[]⟩,⟨[5,21],3,3,some (54,.own 2 4 0 l2_20.length),[2]⟩,⟨[22],4,4,some (6,.own 2 4 0 l2_20.length),[]⟩] [3,6,12,17] [[(1,⟨76,false,(gW false false β3 a0.Gq a0.Path a0.Ln)⟩),(2,⟨76,true,x_15.2.flatMap encR75⟩)],[(3,⟨3,true,([] : List Int).flatMap eW⟩),(1,⟨76,false,(gW false false β3 a0.Gq a0.Path a0.Ln)⟩),(2,⟨76,true,x_15.2.flatMap encR75⟩)],[(3,⟨3,true,l3_17.flatMap eW⟩),(1,⟨76,false,(gW false false β3 a0.Gq a0.Path a0.Ln)⟩),(2,⟨76,true,x_15.2.flatMap encR75⟩)],[(1,⟨76,false,(gW false false β3 a0.Gq a0.Path a0.Ln)⟩),(2,⟨76,true,x_15.2.flatMap encR75⟩)],[(2,⟨76,true,l2_20.flatMap encR75⟩),(1,⟨76,false,(gW false false β3 a0.Gq a0.Path a0.Ln)⟩)]] [[],[],[1,2],[],[],[4,5],[3,6],[],[],[7,9],[7,10],[7,11],[3,12],[],[13,14],[1,15],[1,16],[0,17],[0,18]] [0,23,2,3] rfl rfl (by kernel_rfl) rfl (.read rfl (.c (.put (fun E hE => .move (l1 rfl) (hE.t 0 rfl))) (.c (.put (fun E hE => .move (l1 rfl) (hE.t 0 rfl))) (.c (.put (fun E hE => .move (l1 rfl) (hE.t 0 rfl))) (.c (.put (fun E hE => .move (l1 rfl) (hE.t 0 rfl))) (.n)))))<| .read rfl (.c (.put (fun E hE => .fieldP (l1 rfl) (hE.t 0 rfl) fld76_0)) (.c (.put (fun E hE => .fieldP (l1 rfl) (hE.t 0 rfl) fld76_0)) (.c (.put (fun E hE => .fieldP (l1 rfl) (hE.t 0 rfl) fld76_0)) (.c (.put (fun E hE => .fieldP (l1 rfl) (hE.t 0 rfl) fld76_0)) (.n)))))<| .read rfl (.c (.put (fun E hE => .loadPA (l1 rfl) (hE.t 0 rfl) agg25 rfl rfl rfl rfl)) (.c (.put (fun E hE => .loadPA (l1 rfl) (hE.t 0 rfl) agg25 rfl rfl rfl rfl)) (.c (.put (fun E hE => .loadPA (l1 rfl) (hE.t 0 rfl) agg25 rfl rfl rfl rfl)) (.c (.put (fun E hE => .loadPA (l1 rfl) (hE.t 0 rfl) agg25 rfl rfl rfl rfl)) (.n)))))<| .turn rfl rfl rfl rfl rfl (.new (fun E hE => .buildSlice (t := 3) (out := ([] : List Int).flatMap eW) (l1 rfl) (nm rfl) (.nil) Tryz.underlying28 zero3 el3 (by decide) (by decide) rfl (still_all (encI_still .i64) _)) rfl)<| .read rfl (.c (.put (fun E hE => .fieldP (l1 rfl) (hE.t 0 rfl) fld76_1)) (.c (.put (fun E hE => .fieldP (l1 rfl) (hE.t 0 rfl) fld76_1)) (.n)))<| .read rfl (.c (.put (fun E hE => .loadP (l1 rfl) (hE.t 0 rfl) one28 rfl rfl rfl)) (.c (.put (fun E hE => .loadP (l1 rfl) (hE.t 0 rfl) one28 rfl rfl rfl)) (.n)))<| .turn rfl rfl rfl rfl rfl (.new (fun E hE => .app (enc := eW) (l1 rfl) (nm rfl) (hE.t 0 rfl) (Src.rd (hE.t 1 rfl) (flatMap_length (encI_len .i64) _) (one_all (encI_one .i64) _) (.inr (scal_all (encI_scal .i64) _))) Tryz.underlying28 ⟨_,Tryz.underlying28,by intro k hk; cases hk⟩ el3 rfl (encI_len .i64) rfl rfl (by decide) hl3_17) rfl)<| .p rfl (fun _ q _ => .move (l1 rfl) (q.t 0 rfl))<| .p rfl (fun _ q _ => .move (l1 rfl) (q.t 0 rfl))<| .p rfl (fun _ q _ => .indexRd (enc := eW) (l1 rfl) (q.t 0 rfl) (q.t 1 rfl) Tryz.underlying28 sz3 (encI_len .i64) rfl hy_18)<| .p rfl (fun _ q _ => .loadR (v := iW y_18) (l1 rfl) (q.t 0 rfl) one3 rfl)<| .p rfl (fun _ q _ => .frzAny (fun t ht => AStep.buildSlice (t := t) (out := ([y_18] : List Int).flatMap eW) (l1 rfl) ht (.cons (q.t 0 rfl) (by first | exact ⟨rfl,rfl⟩ | rfl) (.nil)) Tryz.underlying28 zero3 el3 (by decide) (by decide) rfl (still_all (encI_still .i64) _)) rfl (encI_len .i64))<| .turn rfl rfl rfl rfl rfl (.appFrz (fun E hE => .app (enc := eW) (l1 rfl) (nm rfl) (hE.t 0 rfl) (Src.rd (hE.t 1 rfl) (flatMap_length (encI_len .i64) _) (one_all (encI_one .i64) _) (.inl rfl)) Tryz.underlying28 ⟨_,Tryz.underlying28,by intro k hk; cases hk⟩ el3 rfl (encI_len .i64) rfl rfl (by decide) hl3_19) rfl (encI_len .i64))<| .read rfl (.c (.put (fun E hE => .fieldP (l1 rfl) (hE.t 0 rfl) fld76_2)) (.c (.put (fun E hE => .fieldP (l1 rfl) (hE.t 0 rfl) fld76_2)) (.c (.put (fun E hE => .fieldP (l1 rfl) (hE.t 0 rfl) fld76_2)) (.c (.put (fun E hE => .fieldP (l1 rfl) (hE.t 0 rfl) fld76_2)) (.n)))))<| .read rfl (.c (.put (fun E hE => .loadP (l1 rfl) (hE.t 0 rfl) one3 rfl rfl rfl)) (.c (.put (fun E hE => .loadP (l1 rfl) (hE.t 0 rfl) one3 rfl rfl rfl)) (.c (.put (fun E hE => .loadP (l1 rfl) (hE.t 0 rfl) one3 rfl rfl rfl)) (.c (.put (fun E hE => .loadP (l1 rfl) (hE.t 0 rfl) one3 rfl rfl rfl)) (.n)))))<| .p rfl (fun _ q _ => .buildO (offs := [(0,2),(2,1),(3,1)]) (l1 rfl) (.cons (q.t 0 rfl) (by first | exact ⟨rfl,rfl⟩ | rfl) (.cons (q.t 1 rfl) (by first | exact ⟨rfl,rfl⟩ | rfl) (.cons (q.t 2 rfl) (by first | exact ⟨rfl,rfl⟩ | rfl) (.nil)))) zero76 offs76 rfl)<| .p rfl (fun _ q _ => .frzAny (fun t ht => AStep.buildSlice (t := t) (out := ([(R75.mk (R24.mk a0.Gq.Pq a0.Gq.Bq) l3_19 a0.Ln)] : List R75).flatMap encR75) (l1 rfl) ht (.cons (q.t 0 rfl) (by first | exact ⟨rfl,rfl⟩ | rfl) (.nil)) Tryz.underlying123 zero76 el76 (by decide) (by decide) rfl (still_all encR75_still _)) rfl encR75_len)<| .turn rfl rfl rfl rfl rfl (.new (fun E hE => .app (enc := encR75) (l1 rfl) (nm rfl) (hE.t 0 rfl) (Src.rd (hE.t 1 rfl) (flatMap_length encR75_len _) (one_all encR75_one _) (.inl rfl)) Tryz.underlying123 ⟨_,Tryz.underlying123,by intro k hk; cases hk⟩ el76 rfl encR75_len rfl rfl (by decide) hl2_20) rfl)<| .read rfl (.c (.put (fun E hE => .assign (l1 rfl) (hE.t 0 rfl))) (.n))<| .nil _) rfl rfl ?_
    refine AWP.vs ⟨[(2,.ptr 1 0),(6,.own 2 4 0 l2_20.length),(7,rW false y_2 eW),(8,iW x_15.1)],[(2,⟨76,true,l2_20.flatMap encR75⟩),(1,⟨76,false,(gW false false β3 a0.Gq a0.Path a0.Ln)⟩)]⟩ rfl rfl ?_
    obtain ⟨t8_21,ht8_21,h⟩ := letS h
    refine AWP.rg (.cons (.move (l1 rfl) (.t rfl))<| .cons (.add (l1 rfl) (.t rfl) (.const _ _ _))<| .cons (.assign (l1 rfl) (.t rfl))<| .nil _ _ _) ?_
    exact endJ (t8_21,l2_20) h (by subst ht8_21; exact VC.sub (.of rfl) (.of rfl))
   ·have h := iteF hc h
    refine AWP.exit ?_
    exact endJ x_15.2 h (VC.sub (.of rfl) (.of rfl))
theorem c62F (n : Nat) : ∀ (f : Nat) {β3 : Bool} {β4 : Bool} {β5 : Bool} (a0 : R75) (a1 : R41) {r : ((List Int) × Bool)},m62F n f a0 a1 = some r → Spec Tryz.prog 62 [] [.agg (gW false false β3 a0.Gq a0.Path a0.Ln),.agg (tW encK41 β4 β5 a1.Sp a1.Kd a1.Lf)] [] (.tup [rW false r.1 eW,bW r.2]) [] := by
 intro f
 induction f with
 | zero =>
  intro β3 β4 β5 a0 a1 r h
  cases (show (none : Option ((List Int) × Bool)) = some r from h)
 | succ f ih =>
 intro β3 β4 β5 a0 a1 r h
 replace h : m62B n (m62F n f) a0 a1 = some r := h
 generalize m62F n f = rc_0 at h ih
 refine Spec.of (fn := Tryz.f62) Tryz.func62 Tryz.ntmps62 rfl rfl (le1 rfl) (fun w0 Zs Zb T0 ι0 => ?_)
 unfold m62B at h
 refine AWP.sv (.cons (.box (t := 1) (n := 4) (l1 rfl) (nm rfl) (.t rfl) (by first | exact ⟨rfl,rfl⟩ | rfl) rfl)<| .cons (.box (t := 2) (n := 3) (l1 rfl) (nm rfl) (.t rfl) (by first | exact ⟨rfl,rfl⟩ | rfl) rfl)<| .cons (.assign (l1 rfl) (.const _ _ _))<| .cons (.assign (l1 rfl) (.const _ _ _))<| .nil _ _ _) ⟨[(2,.ptr 1 0),(3,.ptr 2 0)],[(2,⟨42,false,(tW encK41 β4 β5 a1.Sp a1.Kd a1.Lf)⟩),(1,⟨76,false,(gW false false β3 a0.Gq a0.Path a0.Ln)⟩)]⟩ rfl rfl ?_
 refine AWP.seq ?_
 refine AWP.sv (.cons (.fieldP (l1 rfl) (.t rfl) fld42_1)<| .cons (.loadP (l1 rfl) (.t rfl) one40 rfl rfl rfl)<| .cons (.lenRd (l1 rfl) (.t rfl) Tryz.underlying40)<| .cons (.eql (l1 rfl) (.t rfl) (.const _ _ _))<| .nil _ _ _) ⟨[(2,.ptr 1 0),(3,.ptr 2 0),(14,bW (decide ((a1.Kd.length : Int) = (0 : Int))))],[(2,⟨42,false,(tW encK41 β4 β5 a1.Sp a1.Kd a1.Lf)⟩),(1,⟨76,false,(gW false false β3 a0.Gq a0.Path a0.Ln)⟩)]⟩ rfl rfl ?_
 refine AWP.cond (.t rfl) (fun hc => ?_) (fun hc => ?_)
 ·have h := iteT hc h
  obtain ⟨y_1,hy_1,h⟩ := bindS h
  refine AWP.sr (.cons (.loadPA (l1 rfl) (.t rfl) agg76 rfl rfl rfl rfl)<| .cons (.fieldP (l1 rfl) (.t rfl) fld42_2)<| .cons (.loadP (l1 rfl) (.t rfl) one28 rfl rfl rfl)<| .cons (.call0 (bw := false) (l1 rfl) (c87 (β1 := false) (β2 := false) (β3 := β3) (β4 := β5) n (R75.mk (R24.mk a0.Gq.Pq a0.Gq.Bq) a0.Path a0.Ln) a1.Lf hy_1) (.cons (.t rfl) (.ren rfl) (.cons (.t rfl) (.ren rfl) (.nil))) rfl)<| .cons (.not (l1 rfl) (.t rfl))<| .cons (.assign (l1 rfl) (.const _ _ _))<| .cons (.assign (l1 rfl) (.t rfl))<| .nil _ _ _) ?_
  refine AWP.ret ?_
  obtain rfl := Option.some.inj h
  refine retJ (Res.vc (s' := ⟨[(4,rW false ([] : List Int) eW),(5,bW (!y_1))],[]⟩) (VC.trans (VC.nilRd (d := 4) false rfl) (VC.sub (.of rfl) (.n _))) ?_)
  refine Res.drop (H := []) rfl ?_
  exact Res.of rfl (.cons (.tmp rfl) (.cons (.tmp rfl) (.nil))) rfl rfl
 ·have h := iteF hc h
  refine AWP.skip ?_
  obtain ⟨y_2,hy_2,h⟩ := bindS h
  refine AWP.sv (.cons (.loadPA (l1 rfl) (.t rfl) agg76 rfl rfl rfl rfl)<| .cons (.fieldP (l1 rfl) (.t rfl) fld42_0)<| .cons (.loadP (l1 rfl) (.t rfl) one3 rfl rfl rfl)<| .cons (.call0 (bw := false) (l1 rfl) (c88 (β3 := β3) n (R75.mk (R24.mk a0.Gq.Pq a0.Gq.Bq) a0.Path a0.Ln) a1.Sp hy_2) (.cons (.t rfl) (.ren rfl) (.cons (.t rfl) (.ren rfl) (.nil))) rfl)<| .cons (.move (l1 rfl) (.t rfl))<| .cons (.extract (l1 rfl) (.t rfl) rfl)<| .cons (.extract (l1 rfl) (.t rfl) rfl)<| .cons (.assign (l1 rfl) (.t rfl))<| .cons (.assign (l1 rfl) (.t rfl))<| .nil _ _ _) ⟨[(3,.ptr 2 0),(6,rW false y_2.1 encR75),(7,bW y_2.2)],[(2,⟨42,false,(tW encK41 β4 β5 a1.Sp a1.Kd a1.Lf)⟩)]⟩ rfl rfl ?_
  refine AWP.seq ?_
  refine AWP.sv (.cons (.move (l1 rfl) (.t rfl))<| .cons (.not (l1 rfl) (.t rfl))<| .cons (.move (l1 rfl) (.t rfl))<| .guard (j := 2) (dj := 29) rfl (l1 rfl) rfl (l1 rfl) (fun hg => .move (l1 rfl) (.t rfl))<| .guard (j := 2) (dj := 29) rfl (l1 rfl) rfl (l1 rfl) (fun hg => .lenRd (l1 rfl) (.gd hg (.t rfl)) Tryz.underlying123)<| .guard (j := 2) (dj := 29) rfl (l1 rfl) rfl (l1 rfl) (fun hg => .fieldP (l1 rfl) (.t rfl) fld42_1)<| .guard (j := 2) (dj := 29) rfl (l1 rfl) rfl (l1 rfl) (fun hg => .loadP (l1 rfl) (.gd hg (.t rfl)) one40 rfl rfl rfl)<| .guard (j := 2) (dj := 29) rfl (l1 rfl) rfl (l1 rfl) (fun hg => .lenRd (l1 rfl) (.gd hg (.t rfl)) Tryz.underlying40)<| .guard (j := 2) (dj := 29) rfl (l1 rfl) rfl (l1 rfl) (fun hg => .neq (l1 rfl) (.gd hg (.t rfl)) (.gd hg (.t rfl)))<| .cons (.pickOr (l1 rfl) (.t rfl) (.const _ _ _) (.t rfl))<| .nil _ _ _) ⟨[(3,.ptr 2 0),(6,rW false y_2.1 encR75),(36,bW ((!y_2.2) || (!decide ((y_2.1.length : Int) = (a1.Kd.length : Int)))))],[(2,⟨42,false,(tW encK41 β4 β5 a1.Sp a1.Kd a1.Lf)⟩)]⟩ rfl rfl ?_
  refine AWP.cond (.t rfl) (fun hc => ?_) (fun hc => ?_)
  ·have h := iteT hc h
   refine AWP.sr (.cons (.assign (l1 rfl) (.const _ _ _))<| .cons (.assign (l1 rfl) (.const _ _ _))<| .nil _ _ _) ?_
   refine AWP.ret ?_
   obtain rfl := Option.some.inj h
   refine retJ (Res.vc (s' := ⟨[(4,rW false ([] : List Int) eW),(5,bW true)],[]⟩) (VC.trans (VC.nilRd (d := 4) false rfl) (VC.sub (.of rfl) (.n _))) ?_)
   refine Res.drop (H := []) rfl ?_
   exact Res.of rfl (.cons (.tmp rfl) (.cons (.tmp rfl) (.nil))) rfl rfl
  ·have h := iteF hc h
   refine AWP.skip ?_
   refine AWP.seq ?_
   refine AWP.sv (.cons (.assign (l1 rfl) (.const _ _ _))<| .nil _ _ _) ⟨[(3,.ptr 2 0),(6,rW false y_2.1 encR75),(8,iW (0 : Int))],[(2,⟨42,false,(tW encK41 β4 β5 a1.Sp a1.Kd a1.Lf)⟩)]⟩ rfl rfl ?_
   refine AWP.joinB' (S := fun p_16 : Unit => ⟨[],[]⟩) h (fun p_16 h => ?_) (fun k_17 h => ?_)
   ·refine AWP.sr (.cons (.assign (l1 rfl) (.const _ _ _))<| .cons (.assign (l1 rfl) (.const _ _ _))<| .nil _ _ _) ?_
    refine AWP.ret ?_
    obtain rfl := Option.some.inj h
    refine retJ (Res.vc (s' := ⟨[(4,rW false ([] : List Int) eW),(5,bW false)],[]⟩) (VC.trans (VC.nilRd (d := 4) false rfl) (VC.sub (.of rfl) (.n _))) ?_)
    refine Res.drop (H := []) rfl ?_
    exact Res.of rfl (.cons (.tmp rfl) (.cons (.tmp rfl) (.nil))) rfl rfl
   ·refine AWP.vs ⟨[(3,.ptr 2 0),(6,rW false y_2.1 encR75),(8,iW (0 : Int))],[(2,⟨42,false,(tW encK41 β4 β5 a1.Sp a1.Kd a1.Lf)⟩)]⟩ rfl rfl ?_
    refine AWP.loopM (S := fun x_9 : Int => ⟨[(3,.ptr 2 0),(6,rW false y_2.1 encR75),(8,iW x_9)],[(2,⟨42,false,(tW encK41 β4 β5 a1.Sp a1.Kd a1.Lf)⟩)]⟩) (x := (0 : Int)) (fun nx_10 x_9 h => ?_) h
    unfold m62_L1 at h
    refine AWP.seq ?_
    refine AWP.sv (.cons (.move (l1 rfl) (.t rfl))<| .cons (.move (l1 rfl) (.t rfl))<| .cons (.lenRd (l1 rfl) (.t rfl) Tryz.underlying123)<| .cons (.lss (l1 rfl) (.t rfl) (.t rfl))<| .nil _ _ _) ⟨[(3,.ptr 2 0),(6,rW false y_2.1 encR75),(8,iW x_9),(40,bW (decide (x_9 < (y_2.1.length : Int))))],[(2,⟨42,false,(tW encK41 β4 β5 a1.Sp a1.Kd a1.Lf)⟩)]⟩ rfl rfl ?_
    refine AWP.cond (.t rfl) (fun hc => ?_) (fun hc => ?_)
    ·have h := iteT hc h
     refine AWP.skip ?_
     refine AWP.seq ?_
     refine AWP.block ?_
     refine AWP.seq ?_
     obtain ⟨y_11,hy_11,h⟩ := bindS h
     obtain ⟨y_12,hy_12,h⟩ := bindS h
     obtain ⟨y_13,hy_13,h⟩ := bindS h
     refine AWP.dw mixed [(3,.ptr 2 0),(6,rW false y_2.1 encR75),(8,iW x_9),(40,bW (decide (x_9 < (y_2.1.length : Int))))] [] [dO [1] 44 (rW false y_2.1 encR75),dO [2] 45 (iW x_9),dO [4,5] 46 (.rptr false (gW false false false y_11.Gq y_11.Path y_11.Ln)),dO [6] 47 (.agg (gW false false false y_11.Gq y_11.Path y_11.Ln)),dO [0] 48 (.ptr 2 (0 + 1)),dO [8] 49 (rW β4 a1.Kd encK41),dO [2] 50 (iW x_9),dO [9,10] 51 (.rptr β4 (tW encK41 false false y_12.out.Sp y_12.out.Kd y_12.out.Lf)),dO [11] 52 (.agg (tW encK41 β4 β4 y_12.out.Sp y_12.out.Kd y_12.out.Lf)),dO [7,12] 53 (.tup [rW false y_13.1 eW,bW y_13.2]),dO [13] 43 (.tup [rW false y_13.1 eW,bW y_13.2]),dO [14] 54 (rW false y_13.1 eW),dO [14] 55 (bW y_13.2),dO [15] 9 (rW false y_13.1 eW),dO [16] 10 (bW y_13.2)] [] [[(2,⟨42,false,(tW encK41 β4 β5 a1.Sp a1.Kd a1.Lf)⟩)]] [[],[],[0,2],[0,3],[],[4,5],[],[4,7],[4,8],[0,9],[0,10],[0,11],[0,11],[0,12],[0,14]] [0,1,2,17,18] rfl rfl (by kernel_rfl) rfl (.p rfl (fun _ q _ => .move (l1 rfl) (q.t 0 rfl))<| .p rfl (fun _ q _ => .move (l1 rfl) (q.t 0 rfl))<| .p rfl (fun _ q _ => .indexRd (enc := encR75) (l1 rfl) (q.t 0 rfl) (q.t 1 rfl) Tryz.underlying123 sz76 encR75_len rfl hy_11)<| .p rfl (fun _ q _ => .loadRA (out := (gW false false false y_11.Gq y_11.Path y_11.Ln)) (l1 rfl) (q.t 0 rfl) agg76 (Nat.le_of_eq (Eq.symm (encR75_len _))) rfl)<| .r rfl rfl (fun _ q => .fieldP (l1 rfl) (q.t 0 rfl) fld42_1)<| .r rfl rfl (fun _ q => .loadP (l1 rfl) (q.t 0 rfl) one40 rfl rfl rfl)<| .p rfl (fun _ q _ => .move (l1 rfl) (q.t 0 rfl))<| .p rfl (fun _ q _ => .indexRdC (enc := encK41) (l1 rfl) (q.t 0 rfl) (q.t 1 rfl) Tryz.underlying40 sz42 encK41_len rfl hy_12 (encK41_out _))<| .p rfl (fun _ q _ => .loadRA (out := (tW encK41 β4 β4 y_12.out.Sp y_12.out.Kd y_12.out.Lf)) (l1 rfl) (q.t 0 rfl) agg42 (le1 rfl) rfl)<| .p rfl (fun _ q _ => .call0 (bw := false) (l1 rfl) (ih (β3 := false) (β4 := β4) (β5 := β4) (R75.mk (R24.mk y_11.Gq.Pq y_11.Gq.Bq) y_11.Path y_11.Ln) (R41.mk y_12.out.Sp y_12.out.Kd y_12.out.Lf) hy_13) (.cons (q.t 0 rfl) (.ren rfl) (.cons (q.t 1 rfl) (.ren rfl) (.nil))) rfl)<| .p rfl (fun _ q _ => .move (l1 rfl) (q.t 0 rfl))<| .p rfl (fun _ q _ => .extract (l1 rfl) (q.t 0 rfl) rfl)<| .p rfl (fun _ q _ => .extract (l1 rfl) (q.t 0 rfl) rfl)<| .p rfl (fun _ q _ => .assign (l1 rfl) (q.t 0 rfl))<| .p rfl (fun _ q _ => .assign (l1 rfl) (q.t 0 rfl))<| .nil _) rfl rfl ?_
     refine AWP.vs ⟨[(3,.ptr 2 0),(6,rW false y_2.1 encR75),(8,iW x_9),(9,rW false y_13.1 eW),(10,bW y_13.2)],[(2,⟨42,false,(tW encK41 β4 β5 a1.Sp a1.Kd a1.Lf)⟩)]⟩ rfl rfl ?_
     refine AWP.sv (.cons (.move (l1 rfl) (.t rfl))<| .nil _ _ _) ⟨[(3,.ptr 2 0),(6,rW false y_2.1 encR75),(8,iW x_9),(9,rW false y_13.1 eW),(56,bW y_13.2)],[(2,⟨42,false,(tW encK41 β4 β5 a1.Sp a1.Kd a1.Lf)⟩)]⟩ rfl rfl ?_
     refine AWP.cond (.t rfl) (fun hc => ?_) (fun hc => ?_)
     ·have h := iteT hc h
      obtain ⟨l3_14,hl3_14,h⟩ := bindS h
      refine AWP.sr (.cons (.move (l1 rfl) (.t rfl))<| .cons (.buildSlice (t := 3) (out := ([x_9] : List Int).flatMap eW) (l1 rfl) (nm rfl) (.cons (.t rfl) (by first | exact ⟨rfl,rfl⟩ | rfl) (.nil)) Tryz.underlying28 zero3 el3 (by decide) (by decide) rfl (still_all (encI_still .i64) _))<| .cons (.move (l1 rfl) (.t rfl))<| .cons (.app (enc := eW) (l1 rfl) (nm rfl) (.t rfl) (Src.rd (.t rfl) (flatMap_length (encI_len .i64) _) (one_all (encI_one .i64) _) (.inl rfl)) Tryz.underlying28 ⟨_,Tryz.underlying28,by intro k hk; cases hk⟩ el3 rfl (encI_len .i64) rfl rfl (by decide) hl3_14)<| .cons (.assign (l1 rfl) (.t rfl))<| .cons (.assign (l1 rfl) (.const _ _ _))<| .nil _ _ _) ?_
      refine AWP.ret ?_
      obtain rfl := Option.some.inj h
      refine retJ (Res.vc (s' := ⟨[(4,rW false l3_14 eW),(5,bW true)],[]⟩) (VC.trans (VC.frz (d := 4) (t := 3) rfl rfl (encI_len .i64)) (VC.sub (.of rfl) (.n _))) ?_)
      refine Res.drop (H := []) rfl ?_
      exact Res.of rfl (.cons (.tmp rfl) (.cons (.tmp rfl) (.nil))) rfl rfl
     ·have h := iteF hc h
      refine AWP.skip ?_
      obtain ⟨t8_15,ht8_15,h⟩ := letS h
      refine AWP.rg (.cons (.move (l1 rfl) (.t rfl))<| .cons (.add (l1 rfl) (.t rfl) (.const _ _ _))<| .cons (.assign (l1 rfl) (.t rfl))<| .nil _ _ _) ?_
      exact endJ t8_15 h (by subst ht8_15; exact VC.sub (.of rfl) (.of rfl))
    ·have h := iteF hc h
     refine AWP.exit ?_
     exact endJ () h (VC.sub (.n _) (.n _))
theorem c62 (n : Nat) {β3 : Bool} {β4 : Bool} {β5 : Bool} (a0 : R75) (a1 : R41) {r : ((List Int) × Bool)} (h : m62 n a0 a1 = some r) : Spec Tryz.prog 62 [] [.agg (gW false false β3 a0.Gq a0.Path a0.Ln),.agg (tW encK41 β4 β5 a1.Sp a1.Kd a1.Lf)] [] (.tup [rW false r.1 eW,bW r.2]) [] := c62F n n a0 a1 h
theorem c27 {β3 : Bool} {β4 : Bool} {β5 : Bool} (n : Nat) (a0 : R75) (a1 : R41) {r : ((List Int) × Int)} (h : m27 n a0 a1 = some r) : Spec Tryz.prog 27 [] [.agg (gW false false β3 a0.Gq a0.Path a0.Ln),.agg (tW encK41 β4 β5 a1.Sp a1.Kd a1.Lf)] [] (.tup [rW false r.1 eW,iW r.2]) [] := by
 refine Spec.of (fn := Tryz.f27) Tryz.func27 Tryz.ntmps27 rfl rfl (le1 rfl) (fun w0 Zs Zb T0 ι0 => ?_)
 unfold m27 at h
 refine AWP.sv (.cons (.box (t := 1) (n := 4) (l1 rfl) (nm rfl) (.t rfl) (by first | exact ⟨rfl,rfl⟩ | rfl) rfl)<| .cons (.box (t := 2) (n := 3) (l1 rfl) (nm rfl) (.t rfl) (by first | exact ⟨rfl,rfl⟩ | rfl) rfl)<| .cons (.assign (l1 rfl) (.const _ _ _))<| .cons (.assign (l1 rfl) (.const _ _ _))<| .nil _ _ _) ⟨[(2,.ptr 1 0),(3,.ptr 2 0)],[(2,⟨42,false,(tW encK41 β4 β5 a1.Sp a1.Kd a1.Lf)⟩),(1,⟨76,false,(gW false false β3 a0.Gq a0.Path a0.Ln)⟩)]⟩ rfl rfl ?_
 refine AWP.seq ?_
 obtain ⟨y_1,hy_1,h⟩ := bindS h
 obtain ⟨y_2,hy_2,h⟩ := bindS h
 refine AWP.sv (.cons (.loadPA (l1 rfl) (.t rfl) agg76 rfl rfl rfl rfl)<| .cons (.call0 (bw := false) (l1 rfl) (c60 (β1 := false) (β2 := false) (β3 := β3) n (R75.mk (R24.mk a0.Gq.Pq a0.Gq.Bq) a0.Path a0.Ln) hy_1) (.cons (.t rfl) (.ren rfl) (.nil)) rfl)<| .cons (.not (l1 rfl) (.t rfl))<| .cons (.move (l1 rfl) (.t rfl))<| .guard (j := 3) (dj := 11) rfl (l1 rfl) rfl (l1 rfl) (fun hg => .loadPA (l1 rfl) (.t rfl) agg42 rfl rfl rfl rfl)<| .guard (j := 3) (dj := 11) rfl (l1 rfl) rfl (l1 rfl) (fun hg => .call0 (bw := false) (l1 rfl) (c61 (β1 := β4) (β2 := β5) n (R41.mk a1.Sp a1.Kd a1.Lf) (gdB hy_2 hg)) (.cons (.gd hg (.t rfl)) (.ren rfl) (.nil)) rfl)<| .guard (j := 3) (dj := 11) rfl (l1 rfl) rfl (l1 rfl) (fun hg => .not (l1 rfl) (.gd hg (.t rfl)))<| .cons (.pickOr (l1 rfl) (.t rfl) (.const _ _ _) (.t rfl))<| .nil _ _ _) ⟨[(2,.ptr 1 0),(3,.ptr 2 0),(15,bW ((!y_1) || (!y_2)))],[(2,⟨42,false,(tW encK41 β4 β5 a1.Sp a1.Kd a1.Lf)⟩),(1,⟨76,false,(gW false false β3 a0.Gq a0.Path a0.Ln)⟩)]⟩ rfl rfl ?_
 refine AWP.cond (.t rfl) (fun hc => ?_) (fun hc => ?_)
 ·have h := iteT hc h
  refine AWP.sr (.cons (.assign (l1 rfl) (.const _ _ _))<| .cons (.assign (l1 rfl) (.const _ _ _))<| .nil _ _ _) ?_
  refine AWP.ret ?_
  obtain rfl := Option.some.inj h
  refine retJ (Res.vc (s' := ⟨[(4,rW false ([] : List Int) eW),(5,iW (1 : Int))],[]⟩) (VC.trans (VC.nilRd (d := 4) false rfl) (VC.sub (.of rfl) (.n _))) ?_)
  refine Res.drop (H := []) rfl ?_
  exact Res.of rfl (.cons (.tmp rfl) (.cons (.tmp rfl) (.nil))) rfl rfl
 ·have h := iteF hc h
  refine AWP.skip ?_
  obtain ⟨y_3,hy_3,h⟩ := bindS h
  refine AWP.sv (.cons (.loadPA (l1 rfl) (.t rfl) agg76 rfl rfl rfl rfl)<| .cons (.loadPA (l1 rfl) (.t rfl) agg42 rfl rfl rfl rfl)<| .cons (.call0 (bw := false) (l1 rfl) (c62 (β3 := β3) (β4 := β4) (β5 := β5) n (R75.mk (R24.mk a0.Gq.Pq a0.Gq.Bq) a0.Path a0.Ln) (R41.mk a1.Sp a1.Kd a1.Lf) hy_3) (.cons (.t rfl) (.ren rfl) (.cons (.t rfl) (.ren rfl) (.nil))) rfl)<| .cons (.move (l1 rfl) (.t rfl))<| .cons (.extract (l1 rfl) (.t rfl) rfl)<| .cons (.extract (l1 rfl) (.t rfl) rfl)<| .cons (.assign (l1 rfl) (.t rfl))<| .cons (.assign (l1 rfl) (.t rfl))<| .nil _ _ _) ⟨[(6,rW false y_3.1 eW),(7,bW y_3.2)],[]⟩ rfl rfl ?_
  refine AWP.seq ?_
  refine AWP.sv (.cons (.move (l1 rfl) (.t rfl))<| .nil _ _ _) ⟨[(6,rW false y_3.1 eW),(22,bW y_3.2)],[]⟩ rfl rfl ?_
  refine AWP.cond (.t rfl) (fun hc => ?_) (fun hc => ?_)
  ·have h := iteT hc h
   refine AWP.sr (.cons (.move (l1 rfl) (.t rfl))<| .cons (.assign (l1 rfl) (.t rfl))<| .cons (.assign (l1 rfl) (.const _ _ _))<| .nil _ _ _) ?_
   refine AWP.ret ?_
   obtain rfl := Option.some.inj h
   refine retJ (Res.vc (s' := ⟨[(4,rW false y_3.1 eW),(5,iW (21 : Int))],[]⟩) (VC.sub (.of rfl) (.n _)) ?_)
   refine Res.drop (H := []) rfl ?_
   exact Res.of rfl (.cons (.tmp rfl) (.cons (.tmp rfl) (.nil))) rfl rfl
  ·have h := iteF hc h
   refine AWP.skip ?_
   refine AWP.sr (.cons (.assign (l1 rfl) (.const _ _ _))<| .cons (.assign (l1 rfl) (.const _ _ _))<| .nil _ _ _) ?_
   refine AWP.ret ?_
   obtain rfl := Option.some.inj h
   refine retJ (Res.vc (s' := ⟨[(4,rW false ([] : List Int) eW),(5,iW (0 : Int))],[]⟩) (VC.trans (VC.nilRd (d := 4) false rfl) (VC.sub (.of rfl) (.n _))) ?_)
   refine Res.drop (H := []) rfl ?_
   exact Res.of rfl (.cons (.tmp rfl) (.cons (.tmp rfl) (.nil))) rfl rfl
theorem c9 {β3 : Bool} {β4 : Bool} {β5 : Bool} (n : Nat) (a0 : R24) (a1 : R44) {r : Bool} (h : m9 n a0 a1 = some r) : Spec Tryz.prog 9 [] [.agg (pW false false a0),.agg [rW β3 a1.Order eW,iW a1.Ln,iW a1.Proof.Sp,rW β4 a1.Proof.Kd encK41,rW β5 a1.Proof.Lf eW]] [] (bW r) [] := by
 refine Spec.of (fn := Tryz.f9) Tryz.func9 Tryz.ntmps9 rfl rfl (le1 rfl) (fun w0 Zs Zb T0 ι0 => ?_)
 unfold m9 at h
 refine AWP.sv (.cons (.box (t := 1) (n := 2) (l1 rfl) (nm rfl) (.t rfl) (by first | exact ⟨rfl,rfl⟩ | rfl) rfl)<| .cons (.box (t := 2) (n := 5) (l1 rfl) (nm rfl) (.t rfl) (by first | exact ⟨rfl,rfl⟩ | rfl) rfl)<| .cons (.assign (l1 rfl) (.const _ _ _))<| .nil _ _ _) ⟨[(2,.ptr 1 0),(3,.ptr 2 0)],[(2,⟨45,false,[rW β3 a1.Order eW,iW a1.Ln,iW a1.Proof.Sp,rW β4 a1.Proof.Kd encK41,rW β5 a1.Proof.Lf eW]⟩),(1,⟨25,false,(pW false false a0)⟩)]⟩ rfl rfl ?_
 obtain ⟨y_1,hy_1,h⟩ := bindS h
 refine AWP.sv (.cons (.loadPA (l1 rfl) (.t rfl) agg25 rfl rfl rfl rfl)<| .cons (.fieldP (l1 rfl) (.t rfl) fld45_0)<| .cons (.loadP (l1 rfl) (.t rfl) one28 rfl rfl rfl)<| .cons (.call0 (bw := false) (l1 rfl) (c26 (β1 := false) (β2 := false) (β3 := β3) n (R24.mk a0.Pq a0.Bq) a1.Order hy_1) (.cons (.t rfl) (.ren rfl) (.cons (.t rfl) (.ren rfl) (.nil))) rfl)<| .cons (.move (l1 rfl) (.t rfl))<| .cons (.extract (l1 rfl) (.t rfl) rfl)<| .cons (.extract (l1 rfl) (.t rfl) rfl)<| .cons (.assign (l1 rfl) (.t rfl))<| .cons (.assign (l1 rfl) (.t rfl))<| .nil _ _ _) ⟨[(2,.ptr 1 0),(3,.ptr 2 0),(5,iW y_1.1),(6,iW y_1.2)],[(2,⟨45,false,[rW β3 a1.Order eW,iW a1.Ln,iW a1.Proof.Sp,rW β4 a1.Proof.Kd encK41,rW β5 a1.Proof.Lf eW]⟩),(1,⟨25,false,(pW false false a0)⟩)]⟩ rfl rfl ?_
 refine AWP.seq ?_
 refine AWP.sv (.cons (.move (l1 rfl) (.t rfl))<| .cons (.neq (l1 rfl) (.t rfl) (.const _ _ _))<| .cons (.move (l1 rfl) (.t rfl))<| .guard (j := 2) (dj := 18) rfl (l1 rfl) rfl (l1 rfl) (fun hg => .move (l1 rfl) (.t rfl))<| .guard (j := 2) (dj := 18) rfl (l1 rfl) rfl (l1 rfl) (fun hg => .fieldP (l1 rfl) (.t rfl) fld45_1)<| .guard (j := 2) (dj := 18) rfl (l1 rfl) rfl (l1 rfl) (fun hg => .loadP (l1 rfl) (.gd hg (.t rfl)) one3 rfl rfl rfl)<| .guard (j := 2) (dj := 18) rfl (l1 rfl) rfl (l1 rfl) (fun hg => .neq (l1 rfl) (.gd hg (.t rfl)) (.gd hg (.t rfl)))<| .cons (.pickOr (l1 rfl) (.t rfl) (.const _ _ _) (.t rfl))<| .nil _ _ _) ⟨[(2,.ptr 1 0),(3,.ptr 2 0),(5,iW y_1.1),(23,bW ((!decide (y_1.2 = (0 : Int))) || (!decide (y_1.1 = a1.Ln))))],[(2,⟨45,false,[rW β3 a1.Order eW,iW a1.Ln,iW a1.Proof.Sp,rW β4 a1.Proof.Kd encK41,rW β5 a1.Proof.Lf eW]⟩),(1,⟨25,false,(pW false false a0)⟩)]⟩ rfl rfl ?_
 refine AWP.cond (.t rfl) (fun hc => ?_) (fun hc => ?_)
 ·have h := iteT hc h
  refine AWP.sr (.cons (.assign (l1 rfl) (.const _ _ _))<| .nil _ _ _) ?_
  refine AWP.ret ?_
  obtain rfl := Option.some.inj h
  refine retJ (Res.vc (s' := ⟨[(4,bW false)],[]⟩) (VC.sub (.of rfl) (.n _)) ?_)
  refine Res.drop (H := []) rfl ?_
  exact Res.of rfl (.cons (.tmp rfl) (.nil)) rfl rfl
 ·have h := iteF hc h
  refine AWP.skip ?_
  obtain ⟨y_2,hy_2,h⟩ := bindS h
  refine AWP.sv (.cons (.loadPA (l1 rfl) (.t rfl) agg25 rfl rfl rfl rfl)<| .cons (.buildSlice (t := 3) (out := ([(0 : Int)] : List Int).flatMap eW) (l1 rfl) (nm rfl) (.cons (.const _ _ _) (by first | exact ⟨rfl,rfl⟩ | rfl) (.nil)) Tryz.underlying28 zero3 el3 (by decide) (by decide) rfl (still_all (encI_still .i64) _))<| .cons (.move (l1 rfl) (.t rfl))<| .cons (.buildO (offs := [(0,2),(2,1),(3,1)]) (l1 rfl) (.cons (.t rfl) (by first | exact ⟨rfl,rfl⟩ | rfl) (.cons (.t rfl) (by first | exact ⟨rfl,rfl⟩ | rfl) (.cons (.t rfl) (by first | exact ⟨rfl,rfl⟩ | rfl) (.nil)))) zero76 offs76 rfl)<| .cons (.fieldP (l1 rfl) (.t rfl) fld45_2)<| .cons (.loadPA (l1 rfl) (.t rfl) agg42 rfl rfl rfl rfl)<| .cons (.call0 (bw := true) (l1 rfl) (c27 (β3 := true) (β4 := β4) (β5 := β5) n (R75.mk (R24.mk a0.Pq a0.Bq) ([(0 : Int)] : List Int) y_1.1) (R41.mk a1.Proof.Sp a1.Proof.Kd a1.Proof.Lf) hy_2) (.cons (.t rfl) (.agg (.cons (.ren rfl) (.cons (.ren rfl) (.cons (.lendRow rfl rfl (encI_len .i64) rfl) (.cons (.ren rfl) (.nil)))))) (.cons (.t rfl) (.ren rfl) (.nil))) rfl)<| .cons (.move (l1 rfl) (.t rfl))<| .cons (.extract (l1 rfl) (.t rfl) rfl)<| .cons (.extract (l1 rfl) (.t rfl) rfl)<| .cons (.assign (l1 rfl) (.t rfl))<| .cons (.assign (l1 rfl) (.t rfl))<| .nil _ _ _) ⟨[(8,iW y_2.2)],[]⟩ rfl rfl ?_
  refine AWP.sr (.cons (.move (l1 rfl) (.t rfl))<| .cons (.eql (l1 rfl) (.t rfl) (.const _ _ _))<| .cons (.assign (l1 rfl) (.t rfl))<| .nil _ _ _) ?_
  refine AWP.ret ?_
  obtain rfl := Option.some.inj h
  refine retJ (Res.vc (s' := ⟨[(4,bW (decide (y_2.2 = (0 : Int))))],[]⟩) (VC.sub (.of rfl) (.n _)) ?_)
  refine Res.drop (H := []) rfl ?_
  exact Res.of rfl (.cons (.tmp rfl) (.nil)) rfl rfl
theorem c28 {β1 : Bool} {β2 : Bool} {β3 : Bool} (n : Nat) (a0 : R24) (a1 : (List Int)) {r : (Int × Int)} (h : m28 n a0 a1 = some r) : Spec Tryz.prog 28 [] [.agg (pW β1 β2 a0),rW β3 a1 eW] [] (.tup [iW r.1,iW r.2]) [] := by
 refine Spec.of (fn := Tryz.f28) Tryz.func28 Tryz.ntmps28 rfl rfl (le1 rfl) (fun w0 Zs Zb T0 ι0 => ?_)
 unfold m28 at h
 refine AWP.sv (.cons (.box (t := 1) (n := 2) (l1 rfl) (nm rfl) (.t rfl) (by first | exact ⟨rfl,rfl⟩ | rfl) rfl)<| .cons (.assign (l1 rfl) (.const _ _ _))<| .cons (.assign (l1 rfl) (.const _ _ _))<| .nil _ _ _) ⟨[(1,rW β3 a1 eW),(2,.ptr 1 0)],[(1,⟨37,false,(pW β1 β2 a0)⟩)]⟩ rfl rfl ?_
 refine AWP.seq ?_
 refine AWP.block ?_
 obtain ⟨y_1,hy_1,h⟩ := bindS h
 refine AWP.sv (.cons (.loadPA (l1 rfl) (.t rfl) agg37 rfl rfl rfl rfl)<| .cons (.call0 (bw := false) (l1 rfl) (c16 (β1 := β1) (β2 := β2) n (R24.mk a0.Pq a0.Bq) hy_1) (.cons (.t rfl) (.ren rfl) (.nil)) rfl)<| .cons (.not (l1 rfl) (.t rfl))<| .cons (.assign (l1 rfl) (.t rfl))<| .nil _ _ _) ⟨[(1,rW β3 a1 eW),(2,.ptr 1 0),(6,bW (!y_1))],[(1,⟨37,false,(pW β1 β2 a0)⟩)]⟩ rfl rfl ?_
 refine AWP.cond (.t rfl) (fun hc => ?_) (fun hc => ?_)
 ·have h := iteT hc h
  refine AWP.sr (.cons (.assign (l1 rfl) (.const _ _ _))<| .cons (.assign (l1 rfl) (.const _ _ _))<| .nil _ _ _) ?_
  refine AWP.ret ?_
  obtain rfl := Option.some.inj h
  refine retJ (Res.vc (s' := ⟨[(4,iW (0 : Int)),(5,iW (1 : Int))],[]⟩) (VC.sub (.of rfl) (.n _)) ?_)
  refine Res.drop (H := []) rfl ?_
  exact Res.of rfl (.cons (.tmp rfl) (.cons (.tmp rfl) (.nil))) rfl rfl
 ·have h := iteF hc h
  obtain ⟨y_2,hy_2,h⟩ := bindS h
  refine AWP.sv (.cons (.loadPA (l1 rfl) (.t rfl) agg37 rfl rfl rfl rfl)<| .cons (.move (l1 rfl) (.t rfl))<| .cons (.call0 (bw := false) (l1 rfl) (c42 (β1 := β1) (β2 := β2) (β3 := β3) n (R24.mk a0.Pq a0.Bq) a1 hy_2) (.cons (.t rfl) (.ren rfl) (.cons (.t rfl) (.ren rfl) (.nil))) rfl)<| .cons (.not (l1 rfl) (.t rfl))<| .cons (.assign (l1 rfl) (.t rfl))<| .nil _ _ _) ⟨[(1,rW β3 a1 eW),(2,.ptr 1 0),(10,bW (!y_2))],[(1,⟨37,false,(pW β1 β2 a0)⟩)]⟩ rfl rfl ?_
  refine AWP.cond (.t rfl) (fun hc => ?_) (fun hc => ?_)
  ·have h := iteT hc h
   refine AWP.sr (.cons (.assign (l1 rfl) (.const _ _ _))<| .cons (.assign (l1 rfl) (.const _ _ _))<| .nil _ _ _) ?_
   refine AWP.ret ?_
   obtain rfl := Option.some.inj h
   refine retJ (Res.vc (s' := ⟨[(4,iW (0 : Int)),(5,iW (22 : Int))],[]⟩) (VC.sub (.of rfl) (.n _)) ?_)
   refine Res.drop (H := []) rfl ?_
   exact Res.of rfl (.cons (.tmp rfl) (.cons (.tmp rfl) (.nil))) rfl rfl
  ·have h := iteF hc h
   refine AWP.skip ?_
   obtain ⟨y_3,hy_3,h⟩ := bindS h
   refine AWP.sr (.cons (.loadPA (l1 rfl) (.t rfl) agg37 rfl rfl rfl rfl)<| .cons (.move (l1 rfl) (.t rfl))<| .cons (.call0 (bw := false) (l1 rfl) (c19 (β1 := β1) (β2 := β2) (β3 := β3) n (R24.mk a0.Pq a0.Bq) a1 hy_3) (.cons (.t rfl) (.ren rfl) (.cons (.t rfl) (.ren rfl) (.nil))) rfl)<| .cons (.assign (l1 rfl) (.t rfl))<| .cons (.assign (l1 rfl) (.const _ _ _))<| .nil _ _ _) ?_
   refine AWP.ret ?_
   obtain rfl := Option.some.inj h
   refine retJ (Res.vc (s' := ⟨[(4,iW y_3),(5,iW (0 : Int))],[]⟩) (VC.sub (.of rfl) (.n _)) ?_)
   refine Res.drop (H := []) rfl ?_
   exact Res.of rfl (.cons (.tmp rfl) (.cons (.tmp rfl) (.nil))) rfl rfl
theorem c30F (n : Nat) : ∀ (f : Nat) {β1 : Bool} {β2 : Bool} (a0 : R30) {r : Int},m30F n f a0 = some r → Spec Tryz.prog 30 [] [.agg (tW encK30 β1 β2 a0.Sp a0.Kd a0.Lf)] [] (iW r) [] := by
 intro f
 induction f with
 | zero =>
  intro β1 β2 a0 r h
  cases (show (none : Option Int) = some r from h)
 | succ f ih =>
 intro β1 β2 a0 r h
 replace h : m30B n (m30F n f) a0 = some r := h
 generalize m30F n f = rc_0 at h ih
 refine Spec.of (fn := Tryz.f30) Tryz.func30 Tryz.ntmps30 rfl rfl (le1 rfl) (fun w0 Zs Zb T0 ι0 => ?_)
 unfold m30B at h
 refine AWP.sv (.cons (.box (t := 1) (n := 3) (l1 rfl) (nm rfl) (.t rfl) (by first | exact ⟨rfl,rfl⟩ | rfl) rfl)<| .cons (.assign (l1 rfl) (.const _ _ _))<| .nil _ _ _) ⟨[(1,.ptr 1 0)],[(1,⟨31,false,(tW encK30 β1 β2 a0.Sp a0.Kd a0.Lf)⟩)]⟩ rfl rfl ?_
 refine AWP.sv (.cons (.assign (l1 rfl) (.const _ _ _))<| .nil _ _ _) ⟨[(1,.ptr 1 0),(3,iW (1 : Int))],[(1,⟨31,false,(tW encK30 β1 β2 a0.Sp a0.Kd a0.Lf)⟩)]⟩ rfl rfl ?_
 refine AWP.seq ?_
 refine AWP.sv (.cons (.fieldP (l1 rfl) (.t rfl) fld31_1)<| .cons (.loadP (l1 rfl) (.t rfl) one29 rfl rfl rfl)<| .cons (.lenRd (l1 rfl) (.t rfl) Tryz.underlying29)<| .cons (.move (l1 rfl) (.const _ _ _))<| .nil _ _ _) ⟨[(3,iW (1 : Int)),(7,rW β1 a0.Kd encK30),(8,iW (a0.Kd.length : Int)),(9,iW (0 : Int))],[]⟩ rfl rfl ?_
 refine AWP.joinB' (S := fun p_12 : Int => ⟨[(3,iW p_12)],[]⟩) h (fun p_12 h => ?_) (fun k_13 h => ?_)
 ·refine AWP.sr (.cons (.move (l1 rfl) (.t rfl))<| .cons (.assign (l1 rfl) (.t rfl))<| .nil _ _ _) ?_
  refine AWP.ret ?_
  obtain rfl := Option.some.inj h
  refine retJ (Res.vc (s' := ⟨[(2,iW p_12)],[]⟩) (VC.sub (.of rfl) (.n _)) ?_)
  refine Res.drop (H := []) rfl ?_
  exact Res.of rfl (.cons (.tmp rfl) (.nil)) rfl rfl
 ·refine AWP.vs ⟨[(3,iW (1 : Int)),(7,rW β1 a0.Kd encK30),(8,iW (a0.Kd.length : Int)),(9,iW (0 : Int))],[]⟩ rfl rfl ?_
  refine AWP.loopM (S := fun x_6 : Int × Int => ⟨[(3,iW x_6.1),(7,rW β1 a0.Kd encK30),(8,iW (a0.Kd.length : Int)),(9,iW x_6.2)],[]⟩) (x := ((1 : Int),(0 : Int))) (fun nx_7 x_6 h => ?_) h
  unfold m30_L1 at h
  refine AWP.sv (.cons (.lss (l1 rfl) (.t rfl) (.t rfl))<| .nil _ _ _) ⟨[(3,iW x_6.1),(7,rW β1 a0.Kd encK30),(8,iW (a0.Kd.length : Int)),(9,iW x_6.2),(10,bW (decide (x_6.2 < (a0.Kd.length : Int))))],[]⟩ rfl rfl ?_
  refine AWP.seq ?_
  refine AWP.cond (.t rfl) (fun hc => ?_) (fun hc => ?_)
  ·have h := iteT hc h
   refine AWP.skip ?_
   refine AWP.seq ?_
   refine AWP.block ?_
   obtain ⟨y_8,hy_8,h⟩ := bindS h
   refine AWP.sv (.cons (.indexRdC (enc := encK30) (l1 rfl) (.t rfl) (.t rfl) Tryz.underlying29 sz31 encK30_len rfl hy_8 (encK30_out _))<| .cons (.loadRA (out := (tW encK30 β1 β1 y_8.out.Sp y_8.out.Kd y_8.out.Lf)) (l1 rfl) (.t rfl) agg31 (le1 rfl) rfl)<| .cons (.alloc (t := 2) (k := ⟨31,false,[iW (0 : Int),.sc (.slice none 0 0),.sc (.slice none 0 0)]⟩) (l1 rfl) (nm rfl) zero31 rfl rfl)<| .cons (.storePA (.t rfl) (.t rfl) sz31 rfl rfl (le1 rfl) (one_lit rfl) (by intro h; cases h) rfl)<| .nil _ _ _) ⟨[(3,iW x_6.1),(7,rW β1 a0.Kd encK30),(8,iW (a0.Kd.length : Int)),(9,iW x_6.2),(5,.ptr 2 0)],[(2,⟨31,false,(tW encK30 β1 β1 y_8.out.Sp y_8.out.Kd y_8.out.Lf)⟩)]⟩ rfl rfl ?_
   obtain ⟨y_9,hy_9,h⟩ := bindS h
   obtain ⟨t3_10,ht3_10,h⟩ := letS h
   refine AWP.rg (.cons (.move (l1 rfl) (.t rfl))<| .cons (.loadPA (l1 rfl) (.t rfl) agg31 rfl rfl rfl rfl)<| .cons (.call0 (bw := false) (l1 rfl) (ih (β1 := β1) (β2 := β1) (R30.mk y_8.out.Sp y_8.out.Kd y_8.out.Lf) hy_9) (.cons (.t rfl) (.ren rfl) (.nil)) rfl)<| .cons (.add (l1 rfl) (.t rfl) (.t rfl))<| .cons (.assign (l1 rfl) (.t rfl))<| .nil _ _ _) ?_
   refine AWP.vc (s' := ⟨[(3,iW t3_10),(7,rW β1 a0.Kd encK30),(8,iW (a0.Kd.length : Int)),(9,iW x_6.2)],[]⟩) (by subst ht3_10; exact VC.sub (.of rfl) (.n _)) ?_
   obtain ⟨t9_11,ht9_11,h⟩ := letS h
   refine AWP.rg (.cons (.add (l1 rfl) (.t rfl) (.const _ _ _))<| .cons (.move (l1 rfl) (.t rfl))<| .nil _ _ _) ?_
   exact endJ (t3_10,t9_11) h (by subst ht9_11; exact VC.sub (.of rfl) (.n _))
  ·have h := iteF hc h
   refine AWP.exit ?_
   exact endJ x_6.1 h (VC.sub (.of rfl) (.n _))
theorem c30 (n : Nat) {β1 : Bool} {β2 : Bool} (a0 : R30) {r : Int} (h : m30 n a0 = some r) : Spec Tryz.prog 30 [] [.agg (tW encK30 β1 β2 a0.Sp a0.Kd a0.Lf)] [] (iW r) [] := c30F n n a0 h
theorem c31F (n : Nat) : ∀ (f : Nat) {β1 : Bool} {β2 : Bool} (a0 : R30) {r : Int},m31F n f a0 = some r → Spec Tryz.prog 31 [] [.agg (tW encK30 β1 β2 a0.Sp a0.Kd a0.Lf)] [] (iW r) [] := by
 intro f
 induction f with
 | zero =>
  intro β1 β2 a0 r h
  cases (show (none : Option Int) = some r from h)
 | succ f ih =>
 intro β1 β2 a0 r h
 replace h : m31B n (m31F n f) a0 = some r := h
 generalize m31F n f = rc_0 at h ih
 refine Spec.of (fn := Tryz.f31) Tryz.func31 Tryz.ntmps31 rfl rfl (le1 rfl) (fun w0 Zs Zb T0 ι0 => ?_)
 unfold m31B at h
 refine AWP.sv (.cons (.box (t := 1) (n := 3) (l1 rfl) (nm rfl) (.t rfl) (by first | exact ⟨rfl,rfl⟩ | rfl) rfl)<| .cons (.assign (l1 rfl) (.const _ _ _))<| .nil _ _ _) ⟨[(1,.ptr 1 0)],[(1,⟨31,false,(tW encK30 β1 β2 a0.Sp a0.Kd a0.Lf)⟩)]⟩ rfl rfl ?_
 refine AWP.sv (.cons (.assign (l1 rfl) (.const _ _ _))<| .nil _ _ _) ⟨[(1,.ptr 1 0),(3,iW (0 : Int))],[(1,⟨31,false,(tW encK30 β1 β2 a0.Sp a0.Kd a0.Lf)⟩)]⟩ rfl rfl ?_
 refine AWP.seq ?_
 refine AWP.sv (.cons (.fieldP (l1 rfl) (.t rfl) fld31_1)<| .cons (.loadP (l1 rfl) (.t rfl) one29 rfl rfl rfl)<| .cons (.lenRd (l1 rfl) (.t rfl) Tryz.underlying29)<| .cons (.move (l1 rfl) (.const _ _ _))<| .nil _ _ _) ⟨[(3,iW (0 : Int)),(7,rW β1 a0.Kd encK30),(8,iW (a0.Kd.length : Int)),(9,iW (0 : Int))],[]⟩ rfl rfl ?_
 refine AWP.joinB' (S := fun p_12 : Int => ⟨[(3,iW p_12)],[]⟩) h (fun p_12 h => ?_) (fun k_13 h => ?_)
 ·obtain ⟨t2_14,ht2_14,h⟩ := letS h
  refine AWP.sr (.cons (.move (l1 rfl) (.t rfl))<| .cons (.add (l1 rfl) (.t rfl) (.const _ _ _))<| .cons (.assign (l1 rfl) (.t rfl))<| .nil _ _ _) ?_
  refine AWP.ret ?_
  obtain rfl := Option.some.inj h
  refine retJ (Res.vc (s' := ⟨[(2,iW t2_14)],[]⟩) (by subst ht2_14; exact VC.sub (.of rfl) (.n _)) ?_)
  refine Res.drop (H := []) rfl ?_
  exact Res.of rfl (.cons (.tmp rfl) (.nil)) rfl rfl
 ·refine AWP.vs ⟨[(3,iW (0 : Int)),(7,rW β1 a0.Kd encK30),(8,iW (a0.Kd.length : Int)),(9,iW (0 : Int))],[]⟩ rfl rfl ?_
  refine AWP.loopM (S := fun x_6 : Int × Int => ⟨[(3,iW x_6.1),(7,rW β1 a0.Kd encK30),(8,iW (a0.Kd.length : Int)),(9,iW x_6.2)],[]⟩) (x := ((0 : Int),(0 : Int))) (fun nx_7 x_6 h => ?_) h
  unfold m31_L1 at h
  refine AWP.sv (.cons (.lss (l1 rfl) (.t rfl) (.t rfl))<| .nil _ _ _) ⟨[(3,iW x_6.1),(7,rW β1 a0.Kd encK30),(8,iW (a0.Kd.length : Int)),(9,iW x_6.2),(10,bW (decide (x_6.2 < (a0.Kd.length : Int))))],[]⟩ rfl rfl ?_
  refine AWP.seq ?_
  refine AWP.cond (.t rfl) (fun hc => ?_) (fun hc => ?_)
  ·have h := iteT hc h
   refine AWP.skip ?_
   refine AWP.seq ?_
   refine AWP.block ?_
   obtain ⟨y_8,hy_8,h⟩ := bindS h
   refine AWP.sv (.cons (.indexRdC (enc := encK30) (l1 rfl) (.t rfl) (.t rfl) Tryz.underlying29 sz31 encK30_len rfl hy_8 (encK30_out _))<| .cons (.loadRA (out := (tW encK30 β1 β1 y_8.out.Sp y_8.out.Kd y_8.out.Lf)) (l1 rfl) (.t rfl) agg31 (le1 rfl) rfl)<| .cons (.alloc (t := 2) (k := ⟨31,false,[iW (0 : Int),.sc (.slice none 0 0),.sc (.slice none 0 0)]⟩) (l1 rfl) (nm rfl) zero31 rfl rfl)<| .cons (.storePA (.t rfl) (.t rfl) sz31 rfl rfl (le1 rfl) (one_lit rfl) (by intro h; cases h) rfl)<| .nil _ _ _) ⟨[(3,iW x_6.1),(7,rW β1 a0.Kd encK30),(8,iW (a0.Kd.length : Int)),(9,iW x_6.2),(5,.ptr 2 0)],[(2,⟨31,false,(tW encK30 β1 β1 y_8.out.Sp y_8.out.Kd y_8.out.Lf)⟩)]⟩ rfl rfl ?_
   obtain ⟨y_9,hy_9,h⟩ := bindS h
   obtain ⟨t3_10,ht3_10,h⟩ := letS h
   refine AWP.rg (.cons (.move (l1 rfl) (.t rfl))<| .cons (.loadPA (l1 rfl) (.t rfl) agg31 rfl rfl rfl rfl)<| .cons (.call0 (bw := false) (l1 rfl) (ih (β1 := β1) (β2 := β1) (R30.mk y_8.out.Sp y_8.out.Kd y_8.out.Lf) hy_9) (.cons (.t rfl) (.ren rfl) (.nil)) rfl)<| .cons (.max2 (l1 rfl) (.t rfl) (.t rfl))<| .cons (.assign (l1 rfl) (.t rfl))<| .nil _ _ _) ?_
   refine AWP.vc (s' := ⟨[(3,iW t3_10),(7,rW β1 a0.Kd encK30),(8,iW (a0.Kd.length : Int)),(9,iW x_6.2)],[]⟩) (by subst ht3_10; exact VC.sub (.of rfl) (.n _)) ?_
   obtain ⟨t9_11,ht9_11,h⟩ := letS h
   refine AWP.rg (.cons (.add (l1 rfl) (.t rfl) (.const _ _ _))<| .cons (.move (l1 rfl) (.t rfl))<| .nil _ _ _) ?_
   exact endJ (t3_10,t9_11) h (by subst ht9_11; exact VC.sub (.of rfl) (.n _))
  ·have h := iteF hc h
   refine AWP.exit ?_
   exact endJ x_6.1 h (VC.sub (.of rfl) (.n _))
theorem c31 (n : Nat) {β1 : Bool} {β2 : Bool} (a0 : R30) {r : Int} (h : m31 n a0 = some r) : Spec Tryz.prog 31 [] [.agg (tW encK30 β1 β2 a0.Sp a0.Kd a0.Lf)] [] (iW r) [] := c31F n n a0 h
theorem c66 {β1 : Bool} {β2 : Bool} {rc_0 : R30 → Option Bool} (ih : ∀ {β1 : Bool} {β2 : Bool} (a0 : R30) {r : Bool},rc_0 a0 = some r → Spec Tryz.prog 32 [] [.agg (tW encK30 β1 β2 a0.Sp a0.Kd a0.Lf)] [] (bW r) []) (n : Nat) (a0 : R30) {r : Bool} (h : m66 n rc_0 a0 = some r) : Spec Tryz.prog 66 [] [.agg (tW encK30 β1 β2 a0.Sp a0.Kd a0.Lf)] [] (bW r) [] := by
 refine Spec.of (fn := Tryz.f66) Tryz.func66 Tryz.ntmps66 rfl rfl (le1 rfl) (fun w0 Zs Zb T0 ι0 => ?_)
 unfold m66 at h
 refine AWP.sv (.cons (.box (t := 1) (n := 3) (l1 rfl) (nm rfl) (.t rfl) (by first | exact ⟨rfl,rfl⟩ | rfl) rfl)<| .cons (.assign (l1 rfl) (.const _ _ _))<| .nil _ _ _) ⟨[(1,.ptr 1 0)],[(1,⟨31,false,(tW encK30 β1 β2 a0.Sp a0.Kd a0.Lf)⟩)]⟩ rfl rfl ?_
 obtain ⟨y_1,hy_1,h⟩ := bindS h
 refine AWP.sr (.cons (.loadPA (l1 rfl) (.t rfl) agg31 rfl rfl rfl rfl)<| .cons (.call0 (bw := false) (l1 rfl) (ih (β1 := β1) (β2 := β2) (R30.mk a0.Sp a0.Kd a0.Lf) hy_1) (.cons (.t rfl) (.ren rfl) (.nil)) rfl)<| .cons (.not (l1 rfl) (.t rfl))<| .cons (.assign (l1 rfl) (.t rfl))<| .nil _ _ _) ?_
 refine AWP.ret ?_
 obtain rfl := Option.some.inj h
 refine retJ (Res.vc (s' := ⟨[(2,bW (!y_1))],[]⟩) (VC.sub (.of rfl) (.n _)) ?_)
 refine Res.drop (H := []) rfl ?_
 exact Res.of rfl (.cons (.tmp rfl) (.nil)) rfl rfl
theorem c90x1 {β1 : Bool} {rc_0 : R30 → Option Bool} (ih : ∀ {β1 : Bool} {β2 : Bool} (a0 : R30) {r : Bool},rc_0 a0 = some r → Spec Tryz.prog 32 [] [.agg (tW encK30 β1 β2 a0.Sp a0.Kd a0.Lf)] [] (bW r) []) (n : Nat) (a0 : (List K30)) {r : Int} (h : m90x1 n rc_0 a0 = some r) : Spec Tryz.prog 90 [] [rW β1 a0 encK30,.clo (.func 66) [] []] [] (iW r) [] := by
 refine Spec.of (fn := Tryz.f90) Tryz.func90 Tryz.ntmps90 rfl rfl (le1 rfl) (fun w0 Zs Zb T0 ι0 => ?_)
 unfold m90x1 at h
 refine AWP.sv (.cons (.assign (l1 rfl) (.const _ _ _))<| .nil _ _ _) ⟨[(0,rW β1 a0 encK30),(1,.clo (.func 66) [] [])],[]⟩ rfl rfl ?_
 refine AWP.seq ?_
 refine AWP.sv (.cons (.move (l1 rfl) (.t rfl))<| .cons (.lenRd (l1 rfl) (.t rfl) Tryz.underlying29)<| .cons (.move (l1 rfl) (.const _ _ _))<| .nil _ _ _) ⟨[(0,rW β1 a0 encK30),(1,.clo (.func 66) [] []),(7,iW (a0.length : Int)),(8,iW (0 : Int))],[]⟩ rfl rfl ?_
 refine AWP.joinB' (S := fun p_10 : Unit => ⟨[],[]⟩) h (fun p_10 h => ?_) (fun k_11 h => ?_)
 ·refine AWP.sr (.cons (.assign (l1 rfl) (.const _ _ _))<| .nil _ _ _) ?_
  refine AWP.ret ?_
  obtain rfl := Option.some.inj h
  refine retJ (Res.vc (s' := ⟨[(4,iW (-1 : Int))],[]⟩) (VC.sub (.of rfl) (.n _)) ?_)
  refine Res.drop (H := []) rfl ?_
  exact Res.of rfl (.cons (.tmp rfl) (.nil)) rfl rfl
 ·refine AWP.vs ⟨[(0,rW β1 a0 encK30),(1,.clo (.func 66) [] []),(7,iW (a0.length : Int)),(8,iW (0 : Int))],[]⟩ rfl rfl ?_
  refine AWP.loopM (S := fun x_5 : Int => ⟨[(0,rW β1 a0 encK30),(1,.clo (.func 66) [] []),(7,iW (a0.length : Int)),(8,iW x_5)],[]⟩) (x := (0 : Int)) (fun nx_6 x_5 h => ?_) h
  unfold m90x1_L1 at h
  refine AWP.sv (.cons (.lss (l1 rfl) (.t rfl) (.t rfl))<| .nil _ _ _) ⟨[(0,rW β1 a0 encK30),(1,.clo (.func 66) [] []),(7,iW (a0.length : Int)),(8,iW x_5),(9,bW (decide (x_5 < (a0.length : Int))))],[]⟩ rfl rfl ?_
  refine AWP.seq ?_
  refine AWP.cond (.t rfl) (fun hc => ?_) (fun hc => ?_)
  ·have h := iteT hc h
   refine AWP.skip ?_
   refine AWP.seq ?_
   refine AWP.block ?_
   refine AWP.sv (.cons (.move (l1 rfl) (.t rfl))<| .cons (.assign (l1 rfl) (.t rfl))<| .nil _ _ _) ⟨[(0,rW β1 a0 encK30),(1,.clo (.func 66) [] []),(7,iW (a0.length : Int)),(8,iW x_5),(5,iW x_5)],[]⟩ rfl rfl ?_
   obtain ⟨y_7,hy_7,h⟩ := bindS h
   obtain ⟨y_8,hy_8,h⟩ := bindS h
   refine AWP.sv (.cons (.move (l1 rfl) (.t rfl))<| .cons (.move (l1 rfl) (.t rfl))<| .cons (.move (l1 rfl) (.t rfl))<| .cons (.indexRdC (enc := encK30) (l1 rfl) (.t rfl) (.t rfl) Tryz.underlying29 sz31 encK30_len rfl hy_7 (encK30_out _))<| .cons (.loadRA (out := (tW encK30 β1 β1 y_7.out.Sp y_7.out.Kd y_7.out.Lf)) (l1 rfl) (.t rfl) agg31 (le1 rfl) rfl)<| .cons (.keep (bw := false) (AStep.callV (us' := []) (avs := [.agg [iW ((R30.mk y_7.out.Sp y_7.out.Kd y_7.out.Lf).Sp),rW β1 ((R30.mk y_7.out.Sp y_7.out.Kd y_7.out.Lf).Kd) encK30,rW β1 ((R30.mk y_7.out.Sp y_7.out.Kd y_7.out.Lf).Lf) eW]]) (cs' := []) (σ := sgT []) (bw := false) (l1 rfl) (.t rfl) (c66 (β1 := β1) (β2 := β1) ih n (R30.mk y_7.out.Sp y_7.out.Kd y_7.out.Lf) hy_8) (.nil) (.cons (.t rfl) (.ren rfl) (.nil)) (.nil) (CallOk.mk' (.n) rfl) (fun _ h => by cases h)) (CallOk.mk' (.n) rfl) rfl rfl)<| .nil _ _ _) ⟨[(0,rW β1 a0 encK30),(1,.clo (.func 66) [] []),(7,iW (a0.length : Int)),(8,iW x_5),(5,iW x_5),(16,bW y_8)],[]⟩ rfl rfl ?_
   refine AWP.cond (.t rfl) (fun hc => ?_) (fun hc => ?_)
   ·have h := iteT hc h
    refine AWP.sr (.cons (.move (l1 rfl) (.t rfl))<| .cons (.assign (l1 rfl) (.t rfl))<| .nil _ _ _) ?_
    refine AWP.ret ?_
    obtain rfl := Option.some.inj h
    refine retJ (Res.vc (s' := ⟨[(4,iW x_5)],[]⟩) (VC.sub (.of rfl) (.n _)) ?_)
    refine Res.drop (H := []) rfl ?_
    exact Res.of rfl (.cons (.tmp rfl) (.nil)) rfl rfl
   ·have h := iteF hc h
    refine AWP.skip ?_
    obtain ⟨t8_9,ht8_9,h⟩ := letS h
    refine AWP.rg (.cons (.add (l1 rfl) (.t rfl) (.const _ _ _))<| .cons (.move (l1 rfl) (.t rfl))<| .nil _ _ _) ?_
    exact endJ t8_9 h (by subst ht8_9; exact VC.sub (.of rfl) (.n _))
  ·have h := iteF hc h
   refine AWP.exit ?_
   exact endJ () h (VC.sub (.n _) (.n _))
theorem c65x1 {β1 : Bool} {rc_0 : R30 → Option Bool} (ih : ∀ {β1 : Bool} {β2 : Bool} (a0 : R30) {r : Bool},rc_0 a0 = some r → Spec Tryz.prog 32 [] [.agg (tW encK30 β1 β2 a0.Sp a0.Kd a0.Lf)] [] (bW r) []) (n : Nat) (a0 : (List K30)) {r : Bool} (h : m65x1 n rc_0 a0 = some r) : Spec Tryz.prog 65 [] [rW β1 a0 encK30,.clo (.func 66) [] []] [] (bW r) [] := by
 refine Spec.of (fn := Tryz.f65) Tryz.func65 Tryz.ntmps65 rfl rfl (le1 rfl) (fun w0 Zs Zb T0 ι0 => ?_)
 unfold m65x1 at h
 refine AWP.sv (.cons (.assign (l1 rfl) (.const _ _ _))<| .nil _ _ _) ⟨[(0,rW β1 a0 encK30),(1,.clo (.func 66) [] [])],[]⟩ rfl rfl ?_
 obtain ⟨y_1,hy_1,h⟩ := bindS h
 refine AWP.sr (.cons (.move (l1 rfl) (.t rfl))<| .cons (.move (l1 rfl) (.t rfl))<| .cons (.call0 (bw := false) (l1 rfl) (c90x1 (β1 := β1) ih n a0 hy_1) (.cons (.t rfl) (.ren rfl) (.cons (.t rfl) (.ren rfl) (.nil))) rfl)<| .cons (.geq (l1 rfl) (.t rfl) (.const _ _ _))<| .cons (.assign (l1 rfl) (.t rfl))<| .nil _ _ _) ?_
 refine AWP.ret ?_
 obtain rfl := Option.some.inj h
 refine retJ (Res.vc (s' := ⟨[(4,bW (decide ((0 : Int) ≤ y_1)))],[]⟩) (VC.sub (.of rfl) (.n _)) ?_)
 refine Res.drop (H := []) rfl ?_
 exact Res.of rfl (.cons (.tmp rfl) (.nil)) rfl rfl
theorem c32F (n : Nat) : ∀ (f : Nat) {β1 : Bool} {β2 : Bool} (a0 : R30) {r : Bool},m32F n f a0 = some r → Spec Tryz.prog 32 [] [.agg (tW encK30 β1 β2 a0.Sp a0.Kd a0.Lf)] [] (bW r) [] := by
 intro f
 induction f with
 | zero =>
  intro β1 β2 a0 r h
  cases (show (none : Option Bool) = some r from h)
 | succ f ih =>
 intro β1 β2 a0 r h
 replace h : m32B n (m32F n f) a0 = some r := h
 generalize m32F n f = rc_0 at h ih
 refine Spec.of (fn := Tryz.f32) Tryz.func32 Tryz.ntmps32 rfl rfl (le1 rfl) (fun w0 Zs Zb T0 ι0 => ?_)
 unfold m32B at h
 refine AWP.sv (.cons (.box (t := 1) (n := 3) (l1 rfl) (nm rfl) (.t rfl) (by first | exact ⟨rfl,rfl⟩ | rfl) rfl)<| .cons (.assign (l1 rfl) (.const _ _ _))<| .nil _ _ _) ⟨[(1,.ptr 1 0)],[(1,⟨31,false,(tW encK30 β1 β2 a0.Sp a0.Kd a0.Lf)⟩)]⟩ rfl rfl ?_
 obtain ⟨y_1,hy_1,h⟩ := bindS h
 obtain ⟨y_2,hy_2,h⟩ := bindS h
 refine AWP.sr (.cons (.loadPA (l1 rfl) (.t rfl) agg31 rfl rfl rfl rfl)<| .cons (.call0 (bw := false) (l1 rfl) (c51 (β1 := β1) (β2 := β2) n (R30.mk a0.Sp a0.Kd a0.Lf) hy_1) (.cons (.t rfl) (.ren rfl) (.nil)) rfl)<| .cons (.move (l1 rfl) (.t rfl))<| .guard (j := 2) (dj := 5) rfl (l1 rfl) rfl (l1 rfl) (fun hg => .fieldP (l1 rfl) (.t rfl) fld31_1)<| .guard (j := 2) (dj := 5) rfl (l1 rfl) rfl (l1 rfl) (fun hg => .loadP (l1 rfl) (.gd hg (.t rfl)) one29 rfl rfl rfl)<| .guard (j := 2) (dj := 5) rfl (l1 rfl) rfl (l1 rfl) (fun hg => .call0 (bw := false) (l1 rfl) (c65x1 (β1 := β1) ih n a0.Kd (gdB hy_2 hg)) (.cons (.gd hg (.t rfl)) (.ren rfl) (.cons (.func _ _ _) (.ren rfl) (.nil))) rfl)<| .guard (j := 2) (dj := 5) rfl (l1 rfl) rfl (l1 rfl) (fun hg => .not (l1 rfl) (.gd hg (.t rfl)))<| .cons (.pickAnd (l1 rfl) (.t rfl) (.t rfl) (.const _ _ _))<| .cons (.assign (l1 rfl) (.t rfl))<| .nil _ _ _) ?_
 refine AWP.ret ?_
 obtain rfl := Option.some.inj h
 refine retJ (Res.vc (s' := ⟨[(2,bW (y_1 && (!y_2)))],[]⟩) (VC.sub (.of rfl) (.n _)) ?_)
 refine Res.drop (H := []) rfl ?_
 exact Res.of rfl (.cons (.tmp rfl) (.nil)) rfl rfl
theorem c32 (n : Nat) {β1 : Bool} {β2 : Bool} (a0 : R30) {r : Bool} (h : m32 n a0 = some r) : Spec Tryz.prog 32 [] [.agg (tW encK30 β1 β2 a0.Sp a0.Kd a0.Lf)] [] (bW r) [] := c32F n n a0 h
theorem c12 {β1 : Bool} {β2 : Bool} (n : Nat) (a0 : R30) {r : Bool} (h : m12 n a0 = some r) : Spec Tryz.prog 12 [] [.agg (tW encK30 β1 β2 a0.Sp a0.Kd a0.Lf)] [] (bW r) [] := by
 refine Spec.of (fn := Tryz.f12) Tryz.func12 Tryz.ntmps12 rfl rfl (le1 rfl) (fun w0 Zs Zb T0 ι0 => ?_)
 unfold m12 at h
 refine AWP.sv (.cons (.box (t := 1) (n := 3) (l1 rfl) (nm rfl) (.t rfl) (by first | exact ⟨rfl,rfl⟩ | rfl) rfl)<| .cons (.assign (l1 rfl) (.const _ _ _))<| .nil _ _ _) ⟨[(1,.ptr 1 0)],[(1,⟨31,false,(tW encK30 β1 β2 a0.Sp a0.Kd a0.Lf)⟩)]⟩ rfl rfl ?_
 obtain ⟨y_1,hy_1,h⟩ := bindS h
 obtain ⟨y_2,hy_2,h⟩ := bindS h
 obtain ⟨y_3,hy_3,h⟩ := bindS h
 refine AWP.sr (.cons (.loadPA (l1 rfl) (.t rfl) agg31 rfl rfl rfl rfl)<| .cons (.call0 (bw := false) (l1 rfl) (c30 (β1 := β1) (β2 := β2) n (R30.mk a0.Sp a0.Kd a0.Lf) hy_1) (.cons (.t rfl) (.ren rfl) (.nil)) rfl)<| .cons (.leq (l1 rfl) (.t rfl) (.const _ _ _))<| .cons (.move (l1 rfl) (.t rfl))<| .guard (j := 3) (dj := 6) rfl (l1 rfl) rfl (l1 rfl) (fun hg => .loadPA (l1 rfl) (.t rfl) agg31 rfl rfl rfl rfl)<| .guard (j := 3) (dj := 6) rfl (l1 rfl) rfl (l1 rfl) (fun hg => .call0 (bw := false) (l1 rfl) (c31 (β1 := β1) (β2 := β2) n (R30.mk a0.Sp a0.Kd a0.Lf) (gdB hy_2 hg)) (.cons (.gd hg (.t rfl)) (.ren rfl) (.nil)) rfl)<| .guard (j := 3) (dj := 6) rfl (l1 rfl) rfl (l1 rfl) (fun hg => .leq (l1 rfl) (.gd hg (.t rfl)) (.const _ _ _))<| .cons (.pickAnd (l1 rfl) (.t rfl) (.t rfl) (.const _ _ _))<| .cons (.move (l1 rfl) (.t rfl))<| .guard (j := 8) (dj := 11) rfl (l1 rfl) rfl (l1 rfl) (fun hg => .loadPA (l1 rfl) (.t rfl) agg31 rfl rfl rfl rfl)<| .guard (j := 8) (dj := 11) rfl (l1 rfl) rfl (l1 rfl) (fun hg => .call0 (bw := false) (l1 rfl) (c32 (β1 := β1) (β2 := β2) n (R30.mk a0.Sp a0.Kd a0.Lf) (gdB hy_3 hg)) (.cons (.gd hg (.t rfl)) (.ren rfl) (.nil)) rfl)<| .cons (.pickAnd (l1 rfl) (.t rfl) (.t rfl) (.const _ _ _))<| .cons (.assign (l1 rfl) (.t rfl))<| .nil _ _ _) ?_
 refine AWP.ret ?_
 obtain rfl := Option.some.inj h
 refine retJ (Res.vc (s' := ⟨[(2,bW (((decide (y_1 ≤ (2000 : Int))) && (decide (y_2 ≤ (40 : Int)))) && y_3))],[]⟩) (VC.sub (.of rfl) (.n _)) ?_)
 refine Res.drop (H := []) rfl ?_
 exact Res.of rfl (.cons (.tmp rfl) (.nil)) rfl rfl
theorem c64 {β1 : Bool} {β2 : Bool} {β3 : Bool} {β4 : Bool} (n : Nat) (a0 : R64) (a1 : (List Int)) {r : Bool} (h : m64 n a0 a1 = some r) : Spec Tryz.prog 64 [] [.agg (gW β1 β2 β3 a0.Gq a0.Path a0.Ln),rW β4 a1 eW] [] (bW r) [] := by
 refine Spec.of (fn := Tryz.f64) Tryz.func64 Tryz.ntmps64 rfl rfl (le1 rfl) (fun w0 Zs Zb T0 ι0 => ?_)
 unfold m64 at h
 refine AWP.sv (.cons (.box (t := 1) (n := 4) (l1 rfl) (nm rfl) (.t rfl) (by first | exact ⟨rfl,rfl⟩ | rfl) rfl)<| .cons (.assign (l1 rfl) (.const _ _ _))<| .nil _ _ _) ⟨[(1,rW β4 a1 eW),(2,.ptr 1 0)],[(1,⟨65,false,(gW β1 β2 β3 a0.Gq a0.Path a0.Ln)⟩)]⟩ rfl rfl ?_
 refine AWP.seq ?_
 obtain ⟨y_1,hy_1,h⟩ := bindS h
 obtain ⟨y_2,hy_2,h⟩ := bindS h
 obtain ⟨y_3,hy_3,h⟩ := bindS h
 refine AWP.dw mixed [(1,rW β4 a1 eW),(2,.ptr 1 0)] [] [dO [1] 5 (.agg (gW β1 β2 β3 a0.Gq a0.Path a0.Ln)),dO [2] 6 (bW y_1),dO [3] 7 (bW y_1),dO [4,1] 8 (.gd y_1 (.ptr 1 (0 + 0))),dO [4,5] 9 (.gd y_1 (.agg (pW β1 β2 a0.Gq))),dO [4,0] 10 (.gd y_1 (rW β4 a1 eW)),dO [4,6,7] 11 (.gd y_1 (bW y_2)),dO [4,8] 12 (bW (y_1 && y_2)),dO [9] 13 (bW (y_1 && y_2)),dO [10,1] 14 (.gd (y_1 && y_2) (.ptr 1 (0 + 3))),dO [10,11] 15 (.gd (y_1 && y_2) (iW a0.Ln)),dO [10,1] 16 (.gd (y_1 && y_2) (.agg (gW β1 β2 β3 a0.Gq a0.Path a0.Ln))),dO [10,0] 17 (.gd (y_1 && y_2) (rW β4 a1 eW)),dO [10,13,14] 18 (.gd (y_1 && y_2) (iW y_3)),dO [10,12,15] 19 (.gd (y_1 && y_2) (bW (decide (a0.Ln ≤ y_3)))),dO [10,16] 20 (bW ((y_1 && y_2) && (decide (a0.Ln ≤ y_3)))),dO [17] 4 (bW ((y_1 && y_2) && (decide (a0.Ln ≤ y_3))))] [] [[(1,⟨65,false,(gW β1 β2 β3 a0.Gq a0.Path a0.Ln)⟩)]] [[],[0,1],[0,2],[0,3],[0,4],[0,3],[0,6],[0,7],[0,8],[0,9],[0,10],[0,9],[0,9],[0,9,11,13],[0,14],[0,15],[0,16]] [18] rfl rfl (by kernel_rfl) rfl (.r rfl rfl (fun _ q => .loadPA (l1 rfl) (q.t 0 rfl) agg65 rfl rfl rfl rfl)<| .p rfl (fun _ q _ => .call0 (bw := false) (l1 rfl) (c53 (β1 := β1) (β2 := β2) (β3 := β3) n (R64.mk (R24.mk a0.Gq.Pq a0.Gq.Bq) a0.Path a0.Ln) hy_1) (.cons (q.t 0 rfl) (.ren rfl) (.nil)) rfl)<| .p rfl (fun _ q _ => .move (l1 rfl) (q.t 0 rfl))<| .rt rfl rfl rfl rfl rfl rfl (fun hg _ q => .fieldP (l1 rfl) (q.t 1 rfl) fld65_0)<| .rt rfl rfl rfl rfl rfl rfl (fun hg _ q => .loadPA (l1 rfl) (.gd hg (q.t 1 rfl)) agg37 rfl rfl rfl rfl)<| .gt rfl rfl rfl rfl rfl (fun hg _ q _ => .move (l1 rfl) (q.t 1 rfl))<| .gt rfl rfl rfl rfl rfl (fun hg _ q _ => .call0 (bw := false) (l1 rfl) (c34 (β1 := β1) (β2 := β2) (β3 := β4) n (R24.mk a0.Gq.Pq a0.Gq.Bq) a1 (gdB hy_2 hg)) (.cons (.gd hg (q.t 1 rfl)) (.ren rfl) (.cons (.gd hg (q.t 2 rfl)) (.ren rfl) (.nil))) rfl)<| .p rfl (fun _ q _ => .pickAnd (l1 rfl) (q.t 0 rfl) (q.t 1 rfl) (.const _ _ _))<| .p rfl (fun _ q _ => .move (l1 rfl) (q.t 0 rfl))<| .rt rfl rfl rfl rfl rfl rfl (fun hg _ q => .fieldP (l1 rfl) (q.t 1 rfl) fld65_2)<| .rt rfl rfl rfl rfl rfl rfl (fun hg _ q => .loadP (l1 rfl) (.gd hg (q.t 1 rfl)) one3 rfl rfl rfl)<| .rt rfl rfl rfl rfl rfl rfl (fun hg _ q => .loadPA (l1 rfl) (q.t 1 rfl) agg65 rfl rfl rfl rfl)<| .gt rfl rfl rfl rfl rfl (fun hg _ q _ => .move (l1 rfl) (q.t 1 rfl))<| .gt rfl rfl rfl rfl rfl (fun hg _ q _ => .call0 (bw := false) (l1 rfl) (c24 (β1 := β1) (β2 := β2) (β3 := β3) (β4 := β4) n (R64.mk (R24.mk a0.Gq.Pq a0.Gq.Bq) a0.Path a0.Ln) a1 (gdB hy_3 hg)) (.cons (.gd hg (q.t 1 rfl)) (.ren rfl) (.cons (.gd hg (q.t 2 rfl)) (.ren rfl) (.nil))) rfl)<| .gt rfl rfl rfl rfl rfl (fun hg _ q _ => .leq (l1 rfl) (.gd hg (q.t 1 rfl)) (.gd hg (q.t 2 rfl)))<| .p rfl (fun _ q _ => .pickAnd (l1 rfl) (q.t 0 rfl) (q.t 1 rfl) (.const _ _ _))<| .p rfl (fun _ q _ => .assign (l1 rfl) (q.t 0 rfl))<| .nil _) rfl rfl ?_
 refine AWP.ret ?_
 obtain rfl := Option.some.inj h
 refine retJ (Res.vc (s' := ⟨[(4,bW ((y_1 && y_2) && (decide (a0.Ln ≤ y_3))))],[]⟩) (VC.sub (.of rfl) (.n _)) ?_)
 refine Res.drop (H := []) rfl ?_
 exact Res.of rfl (.cons (.tmp rfl) (.nil)) rfl rfl
theorem c89F (n : Nat) : ∀ (f : Nat) {β3 : Bool} {β4 : Bool} {β5 : Bool} (a0 : R64) (a1 : R30) (a4_b0_b : (List Int)) {r : (Bool × (List Int))},m89F n f a0 a1 a4_b0_b = some r → Spec Tryz.prog 89 [1,2,3,5] [.agg (gW false false β3 a0.Gq a0.Path a0.Ln),.agg (tW encK30 β4 β5 a1.Sp a1.Kd a1.Lf),.ptr 1 0,.ptr 2 0,.ptr 3 0,.ptr 5 0] [(1,⟨107,false,[.clo (.func 64) [] []]⟩),(2,⟨66,false,[.clo (.func 22) [] []]⟩),(3,⟨28,false,[.own 4 1 0 a4_b0_b.length]⟩),(4,⟨3,true,a4_b0_b.flatMap eW⟩),(5,⟨126,false,[.clo (.func 89) [] [.ptr 1 0,.ptr 2 0,.ptr 3 0,.ptr 5 0]]⟩)] (bW r.1) [(1,⟨107,false,[.clo (.func 64) [] []]⟩),(2,⟨66,false,[.clo (.func 22) [] []]⟩),(3,⟨28,false,[.own 4 1 0 r.2.length]⟩),(4,⟨3,true,r.2.flatMap eW⟩),(5,⟨126,false,[.clo (.func 89) [] [.ptr 1 0,.ptr 2 0,.ptr 3 0,.ptr 5 0]]⟩)] := by
 intro f
 induction f with
 | zero =>
  intro β3 β4 β5 a0 a1 a4_b0_b r h
  cases (show (none : Option (Bool × (List Int))) = some r from h)
 | succ f ih =>
 intro β3 β4 β5 a0 a1 a4_b0_b r h
 replace h : m89B n (m89F n f) a0 a1 a4_b0_b = some r := h
 generalize m89F n f = rc_0 at h ih
 refine Spec.of (fn := Tryz.f89) Tryz.func89 Tryz.ntmps89 rfl rfl (le1 rfl) (fun w0 Zs Zb T0 ι0 => ?_)
 unfold m89B at h
 refine AWP.sv (.cons (.box (t := 6) (n := 4) (l1 rfl) (nm rfl) (.t rfl) (by first | exact ⟨rfl,rfl⟩ | rfl) rfl)<| .cons (.box (t := 7) (n := 3) (l1 rfl) (nm rfl) (.t rfl) (by first | exact ⟨rfl,rfl⟩ | rfl) rfl)<| .cons (.assign (l1 rfl) (.const _ _ _))<| .nil _ _ _) ⟨[(2,.ptr 1 0),(3,.ptr 2 0),(4,.ptr 3 0),(5,.ptr 5 0),(6,.ptr 6 0),(7,.ptr 7 0)],[(7,⟨31,false,(tW encK30 β4 β5 a1.Sp a1.Kd a1.Lf)⟩),(6,⟨65,false,(gW false false β3 a0.Gq a0.Path a0.Ln)⟩),(1,⟨107,false,[.clo (.func 64) [] []]⟩),(2,⟨66,false,[.clo (.func 22) [] []]⟩),(3,⟨28,false,[.own 4 1 0 a4_b0_b.length]⟩),(4,⟨3,true,a4_b0_b.flatMap eW⟩),(5,⟨126,false,[.clo (.func 89) [] [.ptr 1 0,.ptr 2 0,.ptr 3 0,.ptr 5 0]]⟩)]⟩ rfl rfl ?_
 refine AWP.seq ?_
 refine AWP.sv (.cons (.fieldP (l1 rfl) (.t rfl) fld31_1)<| .cons (.loadP (l1 rfl) (.t rfl) one29 rfl rfl rfl)<| .cons (.lenRd (l1 rfl) (.t rfl) Tryz.underlying29)<| .cons (.eql (l1 rfl) (.t rfl) (.const _ _ _))<| .nil _ _ _) ⟨[(2,.ptr 1 0),(3,.ptr 2 0),(4,.ptr 3 0),(5,.ptr 5 0),(6,.ptr 6 0),(7,.ptr 7 0),(16,bW (decide ((a1.Kd.length : Int) = (0 : Int))))],[(7,⟨31,false,(tW encK30 β4 β5 a1.Sp a1.Kd a1.Lf)⟩),(6,⟨65,false,(gW false false β3 a0.Gq a0.Path a0.Ln)⟩),(1,⟨107,false,[.clo (.func 64) [] []]⟩),(2,⟨66,false,[.clo (.func 22) [] []]⟩),(3,⟨28,false,[.own 4 1 0 a4_b0_b.length]⟩),(4,⟨3,true,a4_b0_b.flatMap eW⟩),(5,⟨126,false,[.clo (.func 89) [] [.ptr 1 0,.ptr 2 0,.ptr 3 0,.ptr 5 0]]⟩)]⟩ rfl rfl ?_
 refine AWP.cond (.t rfl) (fun hc => ?_) (fun hc => ?_)
 ·have h := iteT hc h
  obtain ⟨y_1,hy_1,h⟩ := bindS h
  refine AWP.sr (.cons (.loadP (l1 rfl) (.t rfl) one107 rfl rfl rfl)<| .cons (.loadPA (l1 rfl) (.t rfl) agg65 rfl rfl rfl rfl)<| .cons (.fieldP (l1 rfl) (.t rfl) fld31_2)<| .cons (.loadP (l1 rfl) (.t rfl) one28 rfl rfl rfl)<| .cons (.keep (bw := false) (AStep.callV (us' := []) (avs := [.agg [rW false ((R64.mk (R24.mk a0.Gq.Pq a0.Gq.Bq) a0.Path a0.Ln).Gq.Pq) e50,rW false ((R64.mk (R24.mk a0.Gq.Pq a0.Gq.Bq) a0.Path a0.Ln).Gq.Bq) e71,rW β3 ((R64.mk (R24.mk a0.Gq.Pq a0.Gq.Bq) a0.Path a0.Ln).Path) eW,iW ((R64.mk (R24.mk a0.Gq.Pq a0.Gq.Bq) a0.Path a0.Ln).Ln)],rW β5 a1.Lf eW]) (cs' := []) (σ := sgT []) (bw := false) (l1 rfl) (.t rfl) (c64 (β1 := false) (β2 := false) (β3 := β3) (β4 := β5) n (R64.mk (R24.mk a0.Gq.Pq a0.Gq.Bq) a0.Path a0.Ln) a1.Lf hy_1) (.nil) (.cons (.t rfl) (.ren rfl) (.cons (.t rfl) (.ren rfl) (.nil))) (.nil) (CallOk.mk' (.n) rfl) (fun _ h => by cases h)) (CallOk.mk' (.n) rfl) rfl rfl)<| .cons (.not (l1 rfl) (.t rfl))<| .cons (.assign (l1 rfl) (.t rfl))<| .nil _ _ _) ?_
  refine AWP.ret ?_
  obtain rfl := Option.some.inj h
  refine retJ (Res.vc (s' := ⟨[(8,bW (!y_1))],[(1,⟨107,false,[.clo (.func 64) [] []]⟩),(2,⟨66,false,[.clo (.func 22) [] []]⟩),(3,⟨28,false,[.own 4 1 0 a4_b0_b.length]⟩),(4,⟨3,true,a4_b0_b.flatMap eW⟩),(5,⟨126,false,[.clo (.func 89) [] [.ptr 1 0,.ptr 2 0,.ptr 3 0,.ptr 5 0]]⟩)]⟩) (VC.sub (.of rfl) (.of rfl)) ?_)
  refine Res.sub (H := [(1,⟨107,false,[.clo (.func 64) [] []]⟩),(2,⟨66,false,[.clo (.func 22) [] []]⟩),(3,⟨28,false,[.own 4 1 0 a4_b0_b.length]⟩),(4,⟨3,true,a4_b0_b.flatMap eW⟩),(5,⟨126,false,[.clo (.func 89) [] [.ptr 1 0,.ptr 2 0,.ptr 3 0,.ptr 5 0]]⟩)]) (.of rfl) ?_
  exact Res.of rfl (.cons (.tmp rfl) (.nil)) rfl rfl
 ·have h := iteF hc h
  refine AWP.skip ?_
  obtain ⟨y_2,hy_2,h⟩ := bindS h
  refine AWP.sv (.cons (.loadP (l1 rfl) (.t rfl) one66 rfl rfl rfl)<| .cons (.loadPA (l1 rfl) (.t rfl) agg65 rfl rfl rfl rfl)<| .cons (.fieldP (l1 rfl) (.t rfl) fld31_0)<| .cons (.loadP (l1 rfl) (.t rfl) one3 rfl rfl rfl)<| .cons (.keep (bw := false) (AStep.callV (us' := []) (avs := [.agg [rW false ((R64.mk (R24.mk a0.Gq.Pq a0.Gq.Bq) a0.Path a0.Ln).Gq.Pq) e50,rW false ((R64.mk (R24.mk a0.Gq.Pq a0.Gq.Bq) a0.Path a0.Ln).Gq.Bq) e71,rW β3 ((R64.mk (R24.mk a0.Gq.Pq a0.Gq.Bq) a0.Path a0.Ln).Path) eW,iW ((R64.mk (R24.mk a0.Gq.Pq a0.Gq.Bq) a0.Path a0.Ln).Ln)],iW a1.Sp]) (cs' := []) (σ := sgT []) (bw := false) (l1 rfl) (.t rfl) (c22 (β3 := β3) n (R64.mk (R24.mk a0.Gq.Pq a0.Gq.Bq) a0.Path a0.Ln) a1.Sp hy_2) (.nil) (.cons (.t rfl) (.ren rfl) (.cons (.t rfl) (.ren rfl) (.nil))) (.nil) (CallOk.mk' (.n) rfl) (fun _ h => by cases h)) (CallOk.mk' (.n) rfl) rfl rfl)<| .cons (.move (l1 rfl) (.t rfl))<| .cons (.extract (l1 rfl) (.t rfl) rfl)<| .cons (.extract (l1 rfl) (.t rfl) rfl)<| .cons (.assign (l1 rfl) (.t rfl))<| .cons (.assign (l1 rfl) (.t rfl))<| .nil _ _ _) ⟨[(4,.ptr 3 0),(5,.ptr 5 0),(7,.ptr 7 0),(9,rW false y_2.1 encR64),(10,bW y_2.2)],[(7,⟨31,false,(tW encK30 β4 β5 a1.Sp a1.Kd a1.Lf)⟩),(1,⟨107,false,[.clo (.func 64) [] []]⟩),(2,⟨66,false,[.clo (.func 22) [] []]⟩),(3,⟨28,false,[.own 4 1 0 a4_b0_b.length]⟩),(4,⟨3,true,a4_b0_b.flatMap eW⟩),(5,⟨126,false,[.clo (.func 89) [] [.ptr 1 0,.ptr 2 0,.ptr 3 0,.ptr 5 0]]⟩)]⟩ rfl rfl ?_
  refine AWP.seq ?_
  refine AWP.sv (.cons (.move (l1 rfl) (.t rfl))<| .cons (.not (l1 rfl) (.t rfl))<| .cons (.move (l1 rfl) (.t rfl))<| .guard (j := 2) (dj := 33) rfl (l1 rfl) rfl (l1 rfl) (fun hg => .move (l1 rfl) (.t rfl))<| .guard (j := 2) (dj := 33) rfl (l1 rfl) rfl (l1 rfl) (fun hg => .lenRd (l1 rfl) (.gd hg (.t rfl)) Tryz.underlying95)<| .guard (j := 2) (dj := 33) rfl (l1 rfl) rfl (l1 rfl) (fun hg => .fieldP (l1 rfl) (.t rfl) fld31_1)<| .guard (j := 2) (dj := 33) rfl (l1 rfl) rfl (l1 rfl) (fun hg => .loadP (l1 rfl) (.gd hg (.t rfl)) one29 rfl rfl rfl)<| .guard (j := 2) (dj := 33) rfl (l1 rfl) rfl (l1 rfl) (fun hg => .lenRd (l1 rfl) (.gd hg (.t rfl)) Tryz.underlying29)<| .guard (j := 2) (dj := 33) rfl (l1 rfl) rfl (l1 rfl) (fun hg => .neq (l1 rfl) (.gd hg (.t rfl)) (.gd hg (.t rfl)))<| .cons (.pickOr (l1 rfl) (.t rfl) (.const _ _ _) (.t rfl))<| .nil _ _ _) ⟨[(4,.ptr 3 0),(5,.ptr 5 0),(7,.ptr 7 0),(9,rW false y_2.1 encR64),(40,bW ((!y_2.2) || (!decide ((y_2.1.length : Int) = (a1.Kd.length : Int)))))],[(7,⟨31,false,(tW encK30 β4 β5 a1.Sp a1.Kd a1.Lf)⟩),(1,⟨107,false,[.clo (.func 64) [] []]⟩),(2,⟨66,false,[.clo (.func 22) [] []]⟩),(3,⟨28,false,[.own 4 1 0 a4_b0_b.length]⟩),(4,⟨3,true,a4_b0_b.flatMap eW⟩),(5,⟨126,false,[.clo (.func 89) [] [.ptr 1 0,.ptr 2 0,.ptr 3 0,.ptr 5 0]]⟩)]⟩ rfl rfl ?_
  refine AWP.cond (.t rfl) (fun hc => ?_) (fun hc => ?_)
  ·have h := iteT hc h
   refine AWP.sr (.cons (.assign (l1 rfl) (.const _ _ _))<| .nil _ _ _) ?_
   refine AWP.ret ?_
   obtain rfl := Option.some.inj h
   refine retJ (Res.vc (s' := ⟨[(8,bW true)],[(1,⟨107,false,[.clo (.func 64) [] []]⟩),(2,⟨66,false,[.clo (.func 22) [] []]⟩),(3,⟨28,false,[.own 4 1 0 a4_b0_b.length]⟩),(4,⟨3,true,a4_b0_b.flatMap eW⟩),(5,⟨126,false,[.clo (.func 89) [] [.ptr 1 0,.ptr 2 0,.ptr 3 0,.ptr 5 0]]⟩)]⟩) (VC.sub (.of rfl) (.of rfl)) ?_)
   refine Res.sub (H := [(1,⟨107,false,[.clo (.func 64) [] []]⟩),(2,⟨66,false,[.clo (.func 22) [] []]⟩),(3,⟨28,false,[.own 4 1 0 a4_b0_b.length]⟩),(4,⟨3,true,a4_b0_b.flatMap eW⟩),(5,⟨126,false,[.clo (.func 89) [] [.ptr 1 0,.ptr 2 0,.ptr 3 0,.ptr 5 0]]⟩)]) (.of rfl) ?_
   exact Res.of rfl (.cons (.tmp rfl) (.nil)) rfl rfl
  ·have h := iteF hc h
   refine AWP.skip ?_
   refine AWP.seq ?_
   refine AWP.sv (.cons (.fieldP (l1 rfl) (.t rfl) fld31_1)<| .cons (.loadP (l1 rfl) (.t rfl) one29 rfl rfl rfl)<| .cons (.lenRd (l1 rfl) (.t rfl) Tryz.underlying29)<| .cons (.move (l1 rfl) (.const _ _ _))<| .nil _ _ _) ⟨[(4,.ptr 3 0),(5,.ptr 5 0),(9,rW false y_2.1 encR64),(42,rW β4 a1.Kd encK30),(43,iW (a1.Kd.length : Int)),(44,iW (0 : Int))],[(1,⟨107,false,[.clo (.func 64) [] []]⟩),(2,⟨66,false,[.clo (.func 22) [] []]⟩),(3,⟨28,false,[.own 4 1 0 a4_b0_b.length]⟩),(4,⟨3,true,a4_b0_b.flatMap eW⟩),(5,⟨126,false,[.clo (.func 89) [] [.ptr 1 0,.ptr 2 0,.ptr 3 0,.ptr 5 0]]⟩)]⟩ rfl rfl ?_
   refine AWP.joinB' (S := fun p_25 : (List Int) => ⟨[],[(1,⟨107,false,[.clo (.func 64) [] []]⟩),(2,⟨66,false,[.clo (.func 22) [] []]⟩),(3,⟨28,false,[.own 4 1 0 p_25.length]⟩),(4,⟨3,true,p_25.flatMap eW⟩),(5,⟨126,false,[.clo (.func 89) [] [.ptr 1 0,.ptr 2 0,.ptr 3 0,.ptr 5 0]]⟩)]⟩) h (fun p_25 h => ?_) (fun k_26 h => ?_)
   ·refine AWP.sr (.cons (.assign (l1 rfl) (.const _ _ _))<| .nil _ _ _) ?_
    refine AWP.ret ?_
    obtain rfl := Option.some.inj h
    refine retJ (Res.vc (s' := ⟨[(8,bW false)],[(1,⟨107,false,[.clo (.func 64) [] []]⟩),(2,⟨66,false,[.clo (.func 22) [] []]⟩),(3,⟨28,false,[.own 4 1 0 p_25.length]⟩),(4,⟨3,true,p_25.flatMap eW⟩),(5,⟨126,false,[.clo (.func 89) [] [.ptr 1 0,.ptr 2 0,.ptr 3 0,.ptr 5 0]]⟩)]⟩) (VC.sub (.of rfl) (.of rfl)) ?_)
    refine Res.sub (H := [(1,⟨107,false,[.clo (.func 64) [] []]⟩),(2,⟨66,false,[.clo (.func 22) [] []]⟩),(3,⟨28,false,[.own 4 1 0 p_25.length]⟩),(4,⟨3,true,p_25.flatMap eW⟩),(5,⟨126,false,[.clo (.func 89) [] [.ptr 1 0,.ptr 2 0,.ptr 3 0,.ptr 5 0]]⟩)]) (.of rfl) ?_
    exact Res.of rfl (.cons (.tmp rfl) (.nil)) rfl rfl
   ·refine AWP.vs ⟨[(4,.ptr 3 0),(5,.ptr 5 0),(9,rW false y_2.1 encR64),(42,rW β4 a1.Kd encK30),(43,iW (a1.Kd.length : Int)),(44,iW (0 : Int))],[(1,⟨107,false,[.clo (.func 64) [] []]⟩),(2,⟨66,false,[.clo (.func 22) [] []]⟩),(3,⟨28,false,[.own 4 1 0 a4_b0_b.length]⟩),(4,⟨3,true,a4_b0_b.flatMap eW⟩),(5,⟨126,false,[.clo (.func 89) [] [.ptr 1 0,.ptr 2 0,.ptr 3 0,.ptr 5 0]]⟩)]⟩ rfl rfl ?_
    refine AWP.loopM (S := fun x_17 : Int × (List Int) => ⟨[(4,.ptr 3 0),(5,.ptr 5 0),(9,rW false y_2.1 encR64),(42,rW β4 a1.Kd encK30),(43,iW (a1.Kd.length : Int)),(44,iW x_17.1)],[(1,⟨107,false,[.clo (.func 64) [] []]⟩),(2,⟨66,false,[.clo (.func 22) [] []]⟩),(3,⟨28,false,[.own 4 1 0 x_17.2.length]⟩),(4,⟨3,true,x_17.2.flatMap eW⟩),(5,⟨126,false,[.clo (.func 89) [] [.ptr 1 0,.ptr 2 0,.ptr 3 0,.ptr 5 0]]⟩)]⟩) (x := ((0 : Int),a4_b0_b)) (fun nx_18 x_17 h => ?_) h
    unfold m89_L1 at h
    refine AWP.sv (.cons (.lss (l1 rfl) (.t rfl) (.t rfl))<| .nil _ _ _) ⟨[(4,.ptr 3 0),(5,.ptr 5 0),(9,rW false y_2.1 encR64),(42,rW β4 a1.Kd encK30),(43,iW (a1.Kd.length : Int)),(44,iW x_17.1),(45,bW (decide (x_17.1 < (a1.Kd.length : Int))))],[(1,⟨107,false,[.clo (.func 64) [] []]⟩),(2,⟨66,false,[.clo (.func 22) [] []]⟩),(3,⟨28,false,[.own 4 1 0 x_17.2.length]⟩),(4,⟨3,true,x_17.2.flatMap eW⟩),(5,⟨126,false,[.clo (.func 89) [] [.ptr 1 0,.ptr 2 0,.ptr 3 0,.ptr 5 0]]⟩)]⟩ rfl rfl ?_
    refine AWP.seq ?_
    refine AWP.cond (.t rfl) (fun hc => ?_) (fun hc => ?_)
    ·have h := iteT hc h
     refine AWP.skip ?_
     refine AWP.seq ?_
     refine AWP.block ?_
     obtain ⟨y_19,hy_19,h⟩ := bindS h
     refine AWP.sv (.cons (.move (l1 rfl) (.t rfl))<| .cons (.indexRdC (enc := encK30) (l1 rfl) (.t rfl) (.t rfl) Tryz.underlying29 sz31 encK30_len rfl hy_19 (encK30_out _))<| .cons (.loadRA (out := (tW encK30 β4 β4 y_19.out.Sp y_19.out.Kd y_19.out.Lf)) (l1 rfl) (.t rfl) agg31 (le1 rfl) rfl)<| .cons (.alloc (t := 8) (k := ⟨31,false,[iW (0 : Int),.sc (.slice none 0 0),.sc (.slice none 0 0)]⟩) (l1 rfl) (nm rfl) zero31 rfl rfl)<| .cons (.assign (l1 rfl) (.t rfl))<| .cons (.storePA (.t rfl) (.t rfl) sz31 rfl rfl (le1 rfl) (one_lit rfl) (by intro h; cases h) rfl)<| .nil _ _ _) ⟨[(4,.ptr 3 0),(5,.ptr 5 0),(9,rW false y_2.1 encR64),(42,rW β4 a1.Kd encK30),(43,iW (a1.Kd.length : Int)),(44,iW x_17.1),(12,.ptr 8 0),(11,iW x_17.1)],[(8,⟨31,false,(tW encK30 β4 β4 y_19.out.Sp y_19.out.Kd y_19.out.Lf)⟩),(1,⟨107,false,[.clo (.func 64) [] []]⟩),(2,⟨66,false,[.clo (.func 22) [] []]⟩),(3,⟨28,false,[.own 4 1 0 x_17.2.length]⟩),(4,⟨3,true,x_17.2.flatMap eW⟩),(5,⟨126,false,[.clo (.func 89) [] [.ptr 1 0,.ptr 2 0,.ptr 3 0,.ptr 5 0]]⟩)]⟩ rfl rfl ?_
     obtain ⟨l4_20,hl4_20,h⟩ := bindS h
     refine AWP.sv (.cons (.loadP (l1 rfl) (.t rfl) one28 rfl rfl rfl)<| .cons (.move (l1 rfl) (.t rfl))<| .cons (.buildSlice (t := 9) (out := ([x_17.1] : List Int).flatMap eW) (l1 rfl) (nm rfl) (.cons (.t rfl) (by first | exact ⟨rfl,rfl⟩ | rfl) (.nil)) Tryz.underlying28 zero3 el3 (by decide) (by decide) rfl (still_all (encI_still .i64) _))<| .cons (.app (enc := eW) (l1 rfl) (nm rfl) (.t rfl) (Src.own (.t rfl) rfl (lendAll (encI_len .i64) _) (flatMap_length (encI_len .i64) _) (one_all (encI_one .i64) _) (.inl rfl)) Tryz.underlying28 ⟨_,Tryz.underlying28,by intro k hk; cases hk⟩ el3 rfl (encI_len .i64) rfl rfl (by decide) hl4_20)<| .cons (.storeP (.t rfl) (.t rfl) sz28 rfl (l1 rfl) rfl (by intro h; cases h) rfl)<| .nil _ _ _) ⟨[(4,.ptr 3 0),(5,.ptr 5 0),(9,rW false y_2.1 encR64),(42,rW β4 a1.Kd encK30),(43,iW (a1.Kd.length : Int)),(44,iW x_17.1),(12,.ptr 8 0),(11,iW x_17.1)],[(4,⟨3,true,l4_20.flatMap eW⟩),(8,⟨31,false,(tW encK30 β4 β4 y_19.out.Sp y_19.out.Kd y_19.out.Lf)⟩),(1,⟨107,false,[.clo (.func 64) [] []]⟩),(2,⟨66,false,[.clo (.func 22) [] []]⟩),(3,⟨28,false,[.own 4 1 0 l4_20.length]⟩),(5,⟨126,false,[.clo (.func 89) [] [.ptr 1 0,.ptr 2 0,.ptr 3 0,.ptr 5 0]]⟩)]⟩ rfl rfl ?_
     refine AWP.seq ?_
     refine AWP.seq ?_
     obtain ⟨y_21,hy_21,h⟩ := bindS h
     obtain ⟨y_22,hy_22,h⟩ := bindS h
     refine AWP.dw mixed [(4,.ptr 3 0),(5,.ptr 5 0),(9,rW false y_2.1 encR64),(11,iW x_17.1),(12,.ptr 8 0),(42,rW β4 a1.Kd encK30),(43,iW (a1.Kd.length : Int)),(44,iW x_17.1)] [] [dO [1] 53 (.clo (.func 89) [] [.ptr 1 0,.ptr 2 0,.ptr 3 0,.ptr 5 0]),⟨[2],0,1,some (54,rW false y_2.1 encR64),[]⟩,⟨[3],0,1,some (55,iW x_17.1),[]⟩,⟨[9,10],0,1,some (56,.rptr false (gW false false false y_21.Gq y_21.Path y_21.Ln)),[]⟩,⟨[11],0,1,some (57,.agg (gW false false false y_21.Gq y_21.Path y_21.Ln)),[]⟩,dO [4] 58 (.agg (tW encK30 β4 β4 y_19.out.Sp y_19.out.Kd y_19.out.Lf)),⟨[8,12,13],0,0,some (59,bW y_22.1),[4,4]⟩] [6] [[(4,⟨3,true,l4_20.flatMap eW⟩),(8,⟨31,false,(tW encK30 β4 β4 y_19.out.Sp y_19.out.Kd y_19.out.Lf)⟩),(1,⟨107,false,[.clo (.func 64) [] []]⟩),(2,⟨66,false,[.clo (.func 22) [] []]⟩),(3,⟨28,false,[.own 4 1 0 l4_20.length]⟩),(5,⟨126,false,[.clo (.func 89) [] [.ptr 1 0,.ptr 2 0,.ptr 3 0,.ptr 5 0]]⟩)],[(1,⟨107,false,[.clo (.func 64) [] []]⟩),(2,⟨66,false,[.clo (.func 22) [] []]⟩),(3,⟨28,false,[.own 4 1 0 y_22.2.length]⟩),(4,⟨3,true,y_22.2.flatMap eW⟩),(5,⟨126,false,[.clo (.func 89) [] [.ptr 1 0,.ptr 2 0,.ptr 3 0,.ptr 5 0]]⟩),(8,⟨31,false,(tW encK30 β4 β4 y_19.out.Sp y_19.out.Kd y_19.out.Lf)⟩)]] [[],[],[],[1,3],[1,4],[],[0,6]] [0,1,2,5,6,7,14] rfl rfl (by kernel_rfl) rfl (.read rfl (.c (.put (fun E hE => .loadP (l1 rfl) (hE.t 0 rfl) one126 rfl rfl rfl)) (.n))<| .p rfl (fun _ q _ => .move (l1 rfl) (q.t 0 rfl))<| .p rfl (fun _ q _ => .move (l1 rfl) (q.t 0 rfl))<| .p rfl (fun _ q _ => .indexRd (enc := encR64) (l1 rfl) (q.t 0 rfl) (q.t 1 rfl) Tryz.underlying95 sz65 encR64_len rfl hy_21)<| .p rfl (fun _ q _ => .loadRA (out := (gW false false false y_21.Gq y_21.Path y_21.Ln)) (l1 rfl) (q.t 0 rfl) agg65 (Nat.le_of_eq (Eq.symm (encR64_len _))) rfl)<| .read rfl (.c (.put (fun E hE => .loadPA (l1 rfl) (hE.t 0 rfl) agg31 rfl rfl rfl rfl)) (.n))<| .turn rfl rfl rfl rfl rfl (.called (fun E hE => AStep.callV (us' := []) (avs := [.agg [rW false ((R64.mk (R24.mk y_21.Gq.Pq y_21.Gq.Bq) y_21.Path y_21.Ln).Gq.Pq) e50,rW false ((R64.mk (R24.mk y_21.Gq.Pq y_21.Gq.Bq) y_21.Path y_21.Ln).Gq.Bq) e71,rW false ((R64.mk (R24.mk y_21.Gq.Pq y_21.Gq.Bq) y_21.Path y_21.Ln).Path) eW,iW ((R64.mk (R24.mk y_21.Gq.Pq y_21.Gq.Bq) y_21.Path y_21.Ln).Ln)],.agg [iW ((R30.mk y_19.out.Sp y_19.out.Kd y_19.out.Lf).Sp),rW β4 ((R30.mk y_19.out.Sp y_19.out.Kd y_19.out.Lf).Kd) encK30,rW β4 ((R30.mk y_19.out.Sp y_19.out.Kd y_19.out.Lf).Lf) eW]]) (cs' := [.ptr 1 0,.ptr 2 0,.ptr 3 0,.ptr 5 0]) (σ := sgT [(1,1),(2,2),(3,3),(4,4),(5,5)]) (bw := false) (l1 rfl) (hE.t 0 rfl) (ih (β3 := false) (β4 := β4) (β5 := β4) (R64.mk (R24.mk y_21.Gq.Pq y_21.Gq.Bq) y_21.Path y_21.Ln) (R30.mk y_19.out.Sp y_19.out.Kd y_19.out.Lf) l4_20 hy_22) (.nil) (.cons (hE.t 1 rfl) (.ren rfl) (.cons (hE.t 2 rfl) (.ren rfl) (.nil))) (.cons (.ren rfl) (.cons (.ren rfl) (.cons (.ren rfl) (.cons (.ren rfl) (.nil))))) (CallOk.mk' (.c rfl (.c rfl (.c rfl (.c rfl (.c rfl (.n)))))) rfl) (fun _ h => by cases h)) rfl rfl rfl)<| .nil _) rfl rfl ?_
     refine AWP.vs ⟨[(4,.ptr 3 0),(5,.ptr 5 0),(9,rW false y_2.1 encR64),(42,rW β4 a1.Kd encK30),(43,iW (a1.Kd.length : Int)),(44,iW x_17.1),(59,bW y_22.1)],[(1,⟨107,false,[.clo (.func 64) [] []]⟩),(2,⟨66,false,[.clo (.func 22) [] []]⟩),(3,⟨28,false,[.own 4 1 0 y_22.2.length]⟩),(4,⟨3,true,y_22.2.flatMap eW⟩),(5,⟨126,false,[.clo (.func 89) [] [.ptr 1 0,.ptr 2 0,.ptr 3 0,.ptr 5 0]]⟩)]⟩ rfl rfl ?_
     refine AWP.cond (.t rfl) (fun hc => ?_) (fun hc => ?_)
     ·have h := iteT hc h
      refine AWP.sr (.cons (.assign (l1 rfl) (.const _ _ _))<| .nil _ _ _) ?_
      refine AWP.ret ?_
      obtain rfl := Option.some.inj h
      refine retJ (Res.vc (s' := ⟨[(8,bW true)],[(1,⟨107,false,[.clo (.func 64) [] []]⟩),(2,⟨66,false,[.clo (.func 22) [] []]⟩),(3,⟨28,false,[.own 4 1 0 y_22.2.length]⟩),(4,⟨3,true,y_22.2.flatMap eW⟩),(5,⟨126,false,[.clo (.func 89) [] [.ptr 1 0,.ptr 2 0,.ptr 3 0,.ptr 5 0]]⟩)]⟩) (VC.sub (.of rfl) (.of rfl)) ?_)
      refine Res.sub (H := [(1,⟨107,false,[.clo (.func 64) [] []]⟩),(2,⟨66,false,[.clo (.func 22) [] []]⟩),(3,⟨28,false,[.own 4 1 0 y_22.2.length]⟩),(4,⟨3,true,y_22.2.flatMap eW⟩),(5,⟨126,false,[.clo (.func 89) [] [.ptr 1 0,.ptr 2 0,.ptr 3 0,.ptr 5 0]]⟩)]) (.of rfl) ?_
      exact Res.of rfl (.cons (.tmp rfl) (.nil)) rfl rfl
     ·have h := iteF hc h
      refine AWP.skip ?_
      obtain ⟨l4_23,hl4_23,h⟩ := bindS h
      refine AWP.rg (.cons (.loadP (l1 rfl) (.t rfl) one28 rfl rfl rfl)<| .cons (.loadP (l1 rfl) (.t rfl) one28 rfl rfl rfl)<| .cons (.lenOwn (l1 rfl) (.t rfl) Tryz.underlying28)<| .cons (.sub (l1 rfl) (.t rfl) (.const _ _ _))<| .cons (.slOwn (enc := eW) (gh := 0) (gh' := 0) (l1 rfl) (.t rfl) rfl Tryz.underlying28 sz3 (encI_len .i64) rfl (.none _ _ _) (.some (.t rfl)) hl4_23 rfl)<| .cons (.storeP (.t rfl) (.t rfl) sz28 rfl (l1 rfl) rfl (by intro h; cases h) rfl)<| .nil _ _ _) ?_
      refine AWP.vs ⟨[(4,.ptr 3 0),(5,.ptr 5 0),(9,rW false y_2.1 encR64),(42,rW β4 a1.Kd encK30),(43,iW (a1.Kd.length : Int)),(44,iW x_17.1)],[(1,⟨107,false,[.clo (.func 64) [] []]⟩),(2,⟨66,false,[.clo (.func 22) [] []]⟩),(3,⟨28,false,[.own 4 1 0 l4_23.length]⟩),(4,⟨3,true,l4_23.flatMap eW⟩),(5,⟨126,false,[.clo (.func 89) [] [.ptr 1 0,.ptr 2 0,.ptr 3 0,.ptr 5 0]]⟩)]⟩ rfl rfl ?_
      obtain ⟨t44_24,ht44_24,h⟩ := letS h
      refine AWP.rg (.cons (.add (l1 rfl) (.t rfl) (.const _ _ _))<| .cons (.move (l1 rfl) (.t rfl))<| .nil _ _ _) ?_
      exact endJ (t44_24,l4_23) h (by subst ht44_24; exact VC.sub (.of rfl) (.of rfl))
    ·have h := iteF hc h
     refine AWP.exit ?_
     exact endJ x_17.2 h (VC.sub (.n _) (.of rfl))
theorem c89 (n : Nat) {β3 : Bool} {β4 : Bool} {β5 : Bool} (a0 : R64) (a1 : R30) (a4_b0_b : (List Int)) {r : (Bool × (List Int))} (h : m89 n a0 a1 a4_b0_b = some r) : Spec Tryz.prog 89 [1,2,3,5] [.agg (gW false false β3 a0.Gq a0.Path a0.Ln),.agg (tW encK30 β4 β5 a1.Sp a1.Kd a1.Lf),.ptr 1 0,.ptr 2 0,.ptr 3 0,.ptr 5 0] [(1,⟨107,false,[.clo (.func 64) [] []]⟩),(2,⟨66,false,[.clo (.func 22) [] []]⟩),(3,⟨28,false,[.own 4 1 0 a4_b0_b.length]⟩),(4,⟨3,true,a4_b0_b.flatMap eW⟩),(5,⟨126,false,[.clo (.func 89) [] [.ptr 1 0,.ptr 2 0,.ptr 3 0,.ptr 5 0]]⟩)] (bW r.1) [(1,⟨107,false,[.clo (.func 64) [] []]⟩),(2,⟨66,false,[.clo (.func 22) [] []]⟩),(3,⟨28,false,[.own 4 1 0 r.2.length]⟩),(4,⟨3,true,r.2.flatMap eW⟩),(5,⟨126,false,[.clo (.func 89) [] [.ptr 1 0,.ptr 2 0,.ptr 3 0,.ptr 5 0]]⟩)] := c89F n n a0 a1 a4_b0_b h
theorem c63 {β3 : Bool} {β4 : Bool} {β5 : Bool} (n : Nat) (a0 : R64) (a1 : R30) {r : ((List Int) × Int)} (h : m63 n a0 a1 = some r) : Spec Tryz.prog 63 [] [.agg (gW false false β3 a0.Gq a0.Path a0.Ln),.agg (tW encK30 β4 β5 a1.Sp a1.Kd a1.Lf),.clo (.func 22) [] [],.clo (.func 64) [] []] [] (.tup [rW false r.1 eW,iW r.2]) [] := by
 refine Spec.of (fn := Tryz.f63) Tryz.func63 Tryz.ntmps63 rfl rfl (le1 rfl) (fun w0 Zs Zb T0 ι0 => ?_)
 unfold m63 at h
 refine AWP.sv (.cons (.box (t := 1) (n := 4) (l1 rfl) (nm rfl) (.t rfl) (by first | exact ⟨rfl,rfl⟩ | rfl) rfl)<| .cons (.box (t := 2) (n := 3) (l1 rfl) (nm rfl) (.t rfl) (by first | exact ⟨rfl,rfl⟩ | rfl) rfl)<| .cons (.box (t := 3) (n := 1) (l1 rfl) (nm rfl) (.t rfl) (by first | exact ⟨rfl,rfl⟩ | rfl) rfl)<| .cons (.box (t := 4) (n := 1) (l1 rfl) (nm rfl) (.t rfl) (by first | exact ⟨rfl,rfl⟩ | rfl) rfl)<| .cons (.alloc (t := 5) (k := ⟨28,false,[.sc (.slice none 0 0)]⟩) (l1 rfl) (nm rfl) zero28 rfl rfl)<| .cons (.assign (l1 rfl) (.const _ _ _))<| .nil _ _ _) ⟨[(4,.ptr 1 0),(5,.ptr 2 0),(6,.ptr 3 0),(7,.ptr 4 0),(8,.ptr 5 0)],[(5,⟨28,false,[.sc (.slice none 0 0)]⟩),(4,⟨107,false,[.clo (.func 64) [] []]⟩),(3,⟨66,false,[.clo (.func 22) [] []]⟩),(2,⟨31,false,(tW encK30 β4 β5 a1.Sp a1.Kd a1.Lf)⟩),(1,⟨65,false,(gW false false β3 a0.Gq a0.Path a0.Ln)⟩)]⟩ rfl rfl ?_
 refine AWP.seq ?_
 obtain ⟨y_1,hy_1,h⟩ := bindS h
 refine AWP.sv (.cons (.loadPA (l1 rfl) (.t rfl) agg31 rfl rfl rfl rfl)<| .cons (.call0 (bw := false) (l1 rfl) (c12 (β1 := β4) (β2 := β5) n (R30.mk a1.Sp a1.Kd a1.Lf) hy_1) (.cons (.t rfl) (.ren rfl) (.nil)) rfl)<| .cons (.not (l1 rfl) (.t rfl))<| .nil _ _ _) ⟨[(4,.ptr 1 0),(5,.ptr 2 0),(6,.ptr 3 0),(7,.ptr 4 0),(8,.ptr 5 0),(13,bW (!y_1))],[(5,⟨28,false,[.sc (.slice none 0 0)]⟩),(4,⟨107,false,[.clo (.func 64) [] []]⟩),(3,⟨66,false,[.clo (.func 22) [] []]⟩),(2,⟨31,false,(tW encK30 β4 β5 a1.Sp a1.Kd a1.Lf)⟩),(1,⟨65,false,(gW false false β3 a0.Gq a0.Path a0.Ln)⟩)]⟩ rfl rfl ?_
 refine AWP.cond (.t rfl) (fun hc => ?_) (fun hc => ?_)
 ·have h := iteT hc h
  refine AWP.sr (.cons (.storeP (.t rfl) (.const _ _ _) sz28 rfl (l1 rfl) rfl (by intro h; cases h) rfl)<| .cons (.assign (l1 rfl) (.const _ _ _))<| .nil _ _ _) ?_
  refine AWP.ret ?_
  obtain rfl := Option.some.inj h
  refine retJ (Res.vc (s' := ⟨[(8,.ptr 5 0),(9,iW (1 : Int))],[(5,⟨28,false,[rW false ([] : List Int) eW]⟩)]⟩) (VC.trans (VC.cell (t := 5) (i := 0) (v' := rW false ([] : List Int) eW) rfl rfl rfl (fun _ _ _ _ h => nil_rd h)) (VC.sub (.of rfl) (.of rfl))) ?_)
  refine Res.drop (H := [(5,⟨28,false,[rW false ([] : List Int) eW]⟩)]) rfl ?_
  exact Res.of rfl (.cons (.cell1 rfl one28 rfl rfl rfl) (.cons (.tmp rfl) (.nil))) rfl rfl
 ·have h := iteF hc h
  refine AWP.skip ?_
  refine AWP.sv (.cons (.alloc (t := 6) (k := ⟨126,false,[.sc (.nilFunc)]⟩) (l1 rfl) (nm rfl) zero126 rfl rfl)<| .nil _ _ _) ⟨[(4,.ptr 1 0),(5,.ptr 2 0),(6,.ptr 3 0),(7,.ptr 4 0),(8,.ptr 5 0),(10,.ptr 6 0)],[(6,⟨126,false,[.sc (.nilFunc)]⟩),(5,⟨28,false,[.sc (.slice none 0 0)]⟩),(4,⟨107,false,[.clo (.func 64) [] []]⟩),(3,⟨66,false,[.clo (.func 22) [] []]⟩),(2,⟨31,false,(tW encK30 β4 β5 a1.Sp a1.Kd a1.Lf)⟩),(1,⟨65,false,(gW false false β3 a0.Gq a0.Path a0.Ln)⟩)]⟩ rfl rfl ?_
  refine AWP.sv (.cons (.makeFunc (l1 rfl) (.nil) (.cons (.t rfl) (.cons (.t rfl) (.cons (.t rfl) (.cons (.t rfl) (.nil))))))<| .cons (.storeP (.t rfl) (.t rfl) sz126 rfl (l1 rfl) rfl (by intro h; cases h) rfl)<| .nil _ _ _) ⟨[(4,.ptr 1 0),(5,.ptr 2 0),(8,.ptr 5 0),(10,.ptr 6 0)],[(6,⟨126,false,[.clo (.func 89) [] [.ptr 4 0,.ptr 3 0,.ptr 5 0,.ptr 6 0]]⟩),(5,⟨28,false,[.sc (.slice none 0 0)]⟩),(4,⟨107,false,[.clo (.func 64) [] []]⟩),(3,⟨66,false,[.clo (.func 22) [] []]⟩),(2,⟨31,false,(tW encK30 β4 β5 a1.Sp a1.Kd a1.Lf)⟩),(1,⟨65,false,(gW false false β3 a0.Gq a0.Path a0.Ln)⟩)]⟩ rfl rfl ?_
  refine AWP.seq ?_
  obtain ⟨y_2,hy_2,h⟩ := bindS h
  refine AWP.sv (.cons (.loadP (l1 rfl) (.t rfl) one126 rfl rfl rfl)<| .cons (.loadPA (l1 rfl) (.t rfl) agg65 rfl rfl rfl rfl)<| .cons (.loadPA (l1 rfl) (.t rfl) agg31 rfl rfl rfl rfl)<| .vc (VC.trans (VC.newTag (t := 7) (E := 3) (nm rfl)) (VC.cell (t := 5) (i := 0) (v' := .own 7 1 0 0) rfl rfl rfl (fun _ _ _ _ h => nil_own h)))<| .cons (.callV (us' := []) (avs := [.agg [rW false ((R64.mk (R24.mk a0.Gq.Pq a0.Gq.Bq) a0.Path a0.Ln).Gq.Pq) e50,rW false ((R64.mk (R24.mk a0.Gq.Pq a0.Gq.Bq) a0.Path a0.Ln).Gq.Bq) e71,rW β3 ((R64.mk (R24.mk a0.Gq.Pq a0.Gq.Bq) a0.Path a0.Ln).Path) eW,iW ((R64.mk (R24.mk a0.Gq.Pq a0.Gq.Bq) a0.Path a0.Ln).Ln)],.agg [iW ((R30.mk a1.Sp a1.Kd a1.Lf).Sp),rW β4 ((R30.mk a1.Sp a1.Kd a1.Lf).Kd) encK30,rW β5 ((R30.mk a1.Sp a1.Kd a1.Lf).Lf) eW]]) (cs' := [.ptr 1 0,.ptr 2 0,.ptr 3 0,.ptr 5 0]) (σ := sgT [(1,4),(2,3),(3,5),(4,7),(5,6)]) (bw := false) (l1 rfl) (.t rfl) (c89 (β3 := β3) (β4 := β4) (β5 := β5) n (R64.mk (R24.mk a0.Gq.Pq a0.Gq.Bq) a0.Path a0.Ln) (R30.mk a1.Sp a1.Kd a1.Lf) ([] : List Int) hy_2) (.nil) (.cons (.t rfl) (.ren rfl) (.cons (.t rfl) (.ren rfl) (.nil))) (.cons (.ren rfl) (.cons (.ren rfl) (.cons (.ren rfl) (.cons (.ren rfl) (.nil))))) (CallOk.mk' (.c rfl (.c rfl (.c rfl (.c rfl (.c rfl (.n)))))) rfl) (fun _ h => by cases h))<| .nil _ _ _) ⟨[(8,.ptr 5 0),(18,bW y_2.1)],[(5,⟨28,false,[.own 7 1 0 y_2.2.length]⟩),(7,⟨3,true,y_2.2.flatMap eW⟩)]⟩ rfl rfl ?_
  refine AWP.cond (.t rfl) (fun hc => ?_) (fun hc => ?_)
  ·have h := iteT hc h
   refine AWP.sr (.cons (.loadP (l1 rfl) (.t rfl) one28 rfl rfl rfl)<| .cons (.storeP (.t rfl) (.t rfl) sz28 rfl (l1 rfl) rfl (by intro h; cases h) rfl)<| .cons (.assign (l1 rfl) (.const _ _ _))<| .nil _ _ _) ?_
   refine AWP.ret ?_
   obtain rfl := Option.some.inj h
   refine retJ (Res.vc (s' := ⟨[(8,.ptr 5 0),(9,iW (21 : Int))],[(5,⟨28,false,[rW false y_2.2 eW]⟩)]⟩) (VC.trans (VC.trans (VC.freeze (t := 7) rfl) (VC.cellEq (t := 5) (i := 0) (v' := rW false y_2.2 eW) rfl rfl rfl (frz_rd (enc := eW) (encI_len .i64) y_2.2 false))) (VC.sub (.of rfl) (.of rfl))) ?_)
   refine Res.drop (H := [(5,⟨28,false,[rW false y_2.2 eW]⟩)]) rfl ?_
   exact Res.of rfl (.cons (.cell1 rfl one28 rfl rfl rfl) (.cons (.tmp rfl) (.nil))) rfl rfl
  ·have h := iteF hc h
   refine AWP.skip ?_
   refine AWP.sr (.cons (.storeP (.t rfl) (.const _ _ _) sz28 rfl (l1 rfl) rfl (by intro h; cases h) rfl)<| .cons (.assign (l1 rfl) (.const _ _ _))<| .nil _ _ _) ?_
   refine AWP.ret ?_
   obtain rfl := Option.some.inj h
   refine retJ (Res.vc (s' := ⟨[(8,.ptr 5 0),(9,iW (0 : Int))],[(5,⟨28,false,[rW false ([] : List Int) eW]⟩)]⟩) (VC.trans (VC.cell (t := 5) (i := 0) (v' := rW false ([] : List Int) eW) rfl rfl rfl (fun _ _ _ _ h => nil_rd h)) (VC.sub (.of rfl) (.of rfl))) ?_)
   refine Res.drop (H := [(5,⟨28,false,[rW false ([] : List Int) eW]⟩)]) rfl ?_
   exact Res.of rfl (.cons (.cell1 rfl one28 rfl rfl rfl) (.cons (.tmp rfl) (.nil))) rfl rfl
end Go.AB
