import Derived.Test.YtpccmcepgllccaaGreatProg
import Derived.Test.YtpccmcepgllccaaGreatF3a
import Derived.KernelRfl
set_option linter.unusedVariables false
set_option maxRecDepth 20000
namespace Go.AB
open Go Go.Proofs
theorem c64 {β1 : Bool} (n : Nat) (a0 : (List R63)) {r : Int} (h : m64 n a0 = some r) : Spec Tryz.prog 64 [] [rW β1 a0 e63] [] (iW r) [] := by
 refine Spec.of (fn := Tryz.f64) Tryz.func64 Tryz.ntmps64 rfl rfl (le1 rfl) (fun w0 Zs Zb T0 ι0 => ?_)
 unfold m64 at h
 refine AWP.seq ?_
 refine AWP.rg (.cons (.assign (l1 rfl) (.const _ _ _))<| .nil _ _ _) ?_
 refine AWP.vs ⟨[(0,rW β1 a0 e63)],[]⟩ rfl rfl ?_
 refine AWP.seq ?_
 refine AWP.rg (.cons (.assign (l1 rfl) (.const _ _ _))<| .nil _ _ _) ?_
 refine AWP.vs ⟨[(0,rW β1 a0 e63),(3,.sc (.slice none 0 0))],[]⟩ rfl rfl ?_
 refine AWP.seq ?_
 refine AWP.seq ?_
 refine AWP.rg (.cons (.move (l1 rfl) (.t rfl))<| .cons (.lenRd (l1 rfl) (.t rfl) Tryz.underlying35)<| .cons (.move (l1 rfl) (.const _ _ _))<| .nil _ _ _) ?_
 refine AWP.vs ⟨[(0,rW β1 a0 e63),(3,.sc (.slice none 0 0)),(9,rW β1 a0 e63),(10,iW (a0.length : Int)),(11,iW (0 : Int))],[]⟩ rfl rfl ?_
 refine AWP.joinB' (S := fun p_14 : (List Int) => ⟨[(0,rW β1 a0 e63),(3,.own 1 1 0 p_14.length)],[(1,⟨3,true,p_14.flatMap eW⟩)]⟩) h (fun p_14 h => ?_) (fun k_15 h => ?_)
 ·refine AWP.seq ?_
  obtain ⟨y_16,hy_16,h⟩ := bindS h
  obtain ⟨ha_17,h⟩ := asrtS h
  refine AWP.rg (.cons (.move (l1 rfl) (.t rfl))<| .cons (.call (σ := fun _ => 1) (bw := false) (l1 rfl) (c73 n p_14 hy_16) (.cons (.t rfl) (.ren rfl) (.nil)) (CallOk.mk' (.c rfl (.n)) rfl))<| .nil _ _ _) ?_
  refine AWP.vc (s' := ⟨[(0,rW β1 a0 e63),(3,.own 1 1 0 y_16.length)],[(1,⟨3,true,y_16.flatMap eW⟩)]⟩) (VC.sub (.c rfl<| .c (lenC (Eq.symm (Eq.symm ha_17)) rfl)<| .n _) (.of rfl)) ?_
  refine AWP.seq ?_
  refine AWP.rg (.cons (.assign (l1 rfl) (.const _ _ _))<| .nil _ _ _) ?_
  refine AWP.vs ⟨[(0,rW β1 a0 e63),(3,.own 1 1 0 y_16.length),(6,iW (0 : Int))],[(1,⟨3,true,y_16.flatMap eW⟩)]⟩ rfl rfl ?_
  refine AWP.seq ?_
  refine AWP.seq ?_
  obtain ⟨y_18,hy_18,h⟩ := bindS h
  refine AWP.rg (.cons (.move (l1 rfl) (.t rfl))<| .cons (.call0 (bw := false) (l1 rfl) (c74 (β1 := β1) n a0 hy_18) (.cons (.t rfl) (.ren rfl) (.nil)) rfl)<| .cons (.lenRd (l1 rfl) (.t rfl) Tryz.underlying23)<| .cons (.move (l1 rfl) (.const _ _ _))<| .nil _ _ _) ?_
  refine AWP.vs ⟨[(3,.own 1 1 0 y_16.length),(6,iW (0 : Int)),(24,rW false y_18 eW),(25,iW (y_18.length : Int)),(26,iW (0 : Int))],[(1,⟨3,true,y_16.flatMap eW⟩)]⟩ rfl rfl ?_
  refine AWP.joinB' (S := fun p_35 : Int => ⟨[(6,iW p_35)],[]⟩) h (fun p_35 h => ?_) (fun k_36 h => ?_)
  ·refine AWP.seq ?_
   refine AWP.rg (.cons (.move (l1 rfl) (.t rfl))<| .cons (.assign (l1 rfl) (.t rfl))<| .nil _ _ _) ?_
   refine AWP.ret ?_
   obtain rfl := Option.some.inj h
   refine retJ (Res.vc (s' := ⟨[(2,iW p_35)],[]⟩) (VC.sub (.of rfl) (.n _)) ?_)
   refine Res.drop (H := []) rfl ?_
   exact Res.of rfl (.cons (.tmp rfl) (.nil)) rfl rfl
  ·refine AWP.vs ⟨[(3,.own 1 1 0 y_16.length),(6,iW (0 : Int)),(24,rW false y_18 eW),(25,iW (y_18.length : Int)),(26,iW (0 : Int))],[(1,⟨3,true,y_16.flatMap eW⟩)]⟩ rfl rfl ?_
   refine AWP.loopM (S := fun x_29 : Int × Int => ⟨[(3,.own 1 1 0 y_16.length),(6,iW x_29.1),(24,rW false y_18 eW),(25,iW (y_18.length : Int)),(26,iW x_29.2)],[(1,⟨3,true,y_16.flatMap eW⟩)]⟩) (x := ((0 : Int),(0 : Int))) (fun nx_30 x_29 h => ?_) h
   unfold m64_L2 at h
   refine AWP.seq ?_
   refine AWP.rg (.cons (.lss (l1 rfl) (.t rfl) (.t rfl))<| .nil _ _ _) ?_
   refine AWP.vs ⟨[(3,.own 1 1 0 y_16.length),(6,iW x_29.1),(24,rW false y_18 eW),(25,iW (y_18.length : Int)),(26,iW x_29.2),(27,bW (decide (x_29.2 < (y_18.length : Int))))],[(1,⟨3,true,y_16.flatMap eW⟩)]⟩ rfl rfl ?_
   refine AWP.seq ?_
   refine AWP.cond (.t rfl) (fun hc => ?_) (fun hc => ?_)
   ·have h := iteT hc h
    refine AWP.skip ?_
    refine AWP.seq ?_
    refine AWP.block ?_
    refine AWP.seq ?_
    obtain ⟨y_31,hy_31,h⟩ := bindS h
    refine AWP.rg (.cons (.move (l1 rfl) (.t rfl))<| .cons (.indexRd (enc := eW) (l1 rfl) (.t rfl) (.t rfl) Tryz.underlying23 sz3 (encI_len .i64) rfl hy_31)<| .cons (.loadR (v := iW y_31) (l1 rfl) (.t rfl) one3 rfl)<| .cons (.assign (l1 rfl) (.t rfl))<| .cons (.assign (l1 rfl) (.t rfl))<| .nil _ _ _) ?_
    refine AWP.vs ⟨[(3,.own 1 1 0 y_16.length),(6,iW x_29.1),(24,rW false y_18 eW),(25,iW (y_18.length : Int)),(26,iW x_29.2),(7,iW x_29.2),(8,iW y_31)],[(1,⟨3,true,y_16.flatMap eW⟩)]⟩ rfl rfl ?_
    obtain ⟨y_32,hy_32,h⟩ := bindS h
    obtain ⟨t6_33,ht6_33,h⟩ := letS h
    refine AWP.rg (.cons (.move (l1 rfl) (.t rfl))<| .cons (.move (l1 rfl) (.t rfl))<| .cons (.move (l1 rfl) (.t rfl))<| .cons (.move (l1 rfl) (.t rfl))<| .cons (.idxOwn (l1 rfl) (.t rfl) (.t rfl) Tryz.underlying23 sz3 rfl hy_32)<| .cons (.loadP (l1 rfl) (.t rfl) one3 rfl (cell_at1 (encI_len .i64) hy_32) rfl)<| .cons (.sub (l1 rfl) (.t rfl) (.t rfl))<| .cons (.max2 (l1 rfl) (.const _ _ _) (.t rfl))<| .cons (.add (l1 rfl) (.t rfl) (.t rfl))<| .cons (.assign (l1 rfl) (.t rfl))<| .nil _ _ _) ?_
    refine AWP.vc (s' := ⟨[(3,.own 1 1 0 y_16.length),(6,iW t6_33),(24,rW false y_18 eW),(25,iW (y_18.length : Int)),(26,iW x_29.2)],[(1,⟨3,true,y_16.flatMap eW⟩)]⟩) (by subst ht6_33; exact VC.sub (.of rfl) (.of rfl)) ?_
    obtain ⟨t26_34,ht26_34,h⟩ := letS h
    refine AWP.rg (.cons (.add (l1 rfl) (.t rfl) (.const _ _ _))<| .cons (.move (l1 rfl) (.t rfl))<| .nil _ _ _) ?_
    exact endJ (t6_33,t26_34) h (by subst ht26_34; exact VC.sub (.of rfl) (.of rfl))
   ·have h := iteF hc h
    refine AWP.exit ?_
    exact endJ x_29.1 h (VC.sub (.of rfl) (.n _))
 ·refine AWP.vc (VC.nilOwn (d := 3) (t := 1) (sz := 1) (E := 3) rfl (nm rfl)) ?_
  refine AWP.vs ⟨[(0,rW β1 a0 e63),(3,.own 1 1 0 ([] : List Int).length),(9,rW β1 a0 e63),(10,iW (a0.length : Int)),(11,iW (0 : Int))],[(1,⟨3,true,([] : List Int).flatMap eW⟩)]⟩ rfl rfl ?_
  refine AWP.loopM (S := fun x_9 : Int × (List Int) => ⟨[(0,rW β1 a0 e63),(3,.own 1 1 0 x_9.2.length),(9,rW β1 a0 e63),(10,iW (a0.length : Int)),(11,iW x_9.1)],[(1,⟨3,true,x_9.2.flatMap eW⟩)]⟩) (x := ((0 : Int),([] : List Int))) (fun nx_10 x_9 h => ?_) h
  unfold m64_L1 at h
  refine AWP.seq ?_
  refine AWP.rg (.cons (.lss (l1 rfl) (.t rfl) (.t rfl))<| .nil _ _ _) ?_
  refine AWP.vs ⟨[(0,rW β1 a0 e63),(3,.own 1 1 0 x_9.2.length),(9,rW β1 a0 e63),(10,iW (a0.length : Int)),(11,iW x_9.1),(12,bW (decide (x_9.1 < (a0.length : Int))))],[(1,⟨3,true,x_9.2.flatMap eW⟩)]⟩ rfl rfl ?_
  refine AWP.seq ?_
  refine AWP.cond (.t rfl) (fun hc => ?_) (fun hc => ?_)
  ·have h := iteT hc h
   refine AWP.skip ?_
   refine AWP.seq ?_
   refine AWP.block ?_
   refine AWP.seq ?_
   obtain ⟨y_11,hy_11,h⟩ := bindS h
   refine AWP.rg (.cons (.indexRd (enc := e63) (l1 rfl) (.t rfl) (.t rfl) Tryz.underlying35 sz64 encR63_len rfl hy_11)<| .cons (.loadRA (out := [iW y_11.Rl,iW y_11.Ln,iW y_11.Due]) (l1 rfl) (.t rfl) agg64 (Nat.le_of_eq (Eq.symm (encR63_len _))) rfl)<| .cons (.alloc (t := 2) (k := ⟨64,false,[iW (0 : Int),iW (0 : Int),iW (0 : Int)]⟩) (l1 rfl) (nm rfl) zero64 rfl rfl)<| .cons (.storePA (.t rfl) (.t rfl) sz64 rfl rfl (le1 rfl) (one_lit rfl) (by intro h; cases h) rfl)<| .nil _ _ _) ?_
   refine AWP.vs ⟨[(0,rW β1 a0 e63),(3,.own 1 1 0 x_9.2.length),(9,rW β1 a0 e63),(10,iW (a0.length : Int)),(11,iW x_9.1),(5,.ptr 2 0)],[(2,⟨64,false,[iW y_11.Rl,iW y_11.Ln,iW y_11.Due]⟩),(1,⟨3,true,x_9.2.flatMap eW⟩)]⟩ rfl rfl ?_
   obtain ⟨l1_12,hl1_12,h⟩ := bindS h
   refine AWP.rg (.cons (.move (l1 rfl) (.t rfl))<| .cons (.fieldP (l1 rfl) (.t rfl) fld64_2)<| .cons (.loadP (l1 rfl) (.t rfl) one3 rfl rfl rfl)<| .cons (.buildSlice (t := 3) (out := ([y_11.Due] : List Int).flatMap eW) (l1 rfl) (nm rfl) (.cons (.t rfl) (by first | exact ⟨rfl,rfl⟩ | rfl) (.nil)) Tryz.underlying23 zero3 el3 (by decide) (by decide) rfl (still_all (encI_still .i64) _))<| .cons (.app (enc := eW) (l1 rfl) (nm rfl) (.t rfl) (Src.own (.t rfl) rfl (lendAll (encI_len .i64) _) (flatMap_length (encI_len .i64) _) (one_all (encI_one .i64) _) (.inl rfl)) Tryz.underlying23 ⟨_,Tryz.underlying23,by intro k hk; cases hk⟩ el3 rfl (encI_len .i64) rfl rfl (by decide) hl1_12)<| .cons (.assign (l1 rfl) (.t rfl))<| .nil _ _ _) ?_
   refine AWP.vs ⟨[(0,rW β1 a0 e63),(3,.own 1 1 0 l1_12.length),(9,rW β1 a0 e63),(10,iW (a0.length : Int)),(11,iW x_9.1)],[(1,⟨3,true,l1_12.flatMap eW⟩)]⟩ rfl rfl ?_
   obtain ⟨t11_13,ht11_13,h⟩ := letS h
   refine AWP.rg (.cons (.add (l1 rfl) (.t rfl) (.const _ _ _))<| .cons (.move (l1 rfl) (.t rfl))<| .nil _ _ _) ?_
   exact endJ (t11_13,l1_12) h (by subst ht11_13; exact VC.sub (.of rfl) (.of rfl))
  ·have h := iteF hc h
   refine AWP.exit ?_
   exact endJ x_9.2 h (VC.sub (.of rfl) (.of rfl))
theorem c42 {β1 : Bool} {β2 : Bool} (n : Nat) (a0 : R36) {r : Int} (h : m42 n a0 = some r) : Spec Tryz.prog 42 [] [.agg (gW β1 β2 a0.Jb a0.Dn a0.Mt a0.Bo)] [] (iW r) [] := by
 refine Spec.of (fn := Tryz.f42) Tryz.func42 Tryz.ntmps42 rfl rfl (le1 rfl) (fun w0 Zs Zb T0 ι0 => ?_)
 unfold m42 at h
 refine AWP.seq ?_
 refine AWP.rg (.cons (.box (t := 1) (n := 4) (l1 rfl) (nm rfl) (.t rfl) (by first | exact ⟨rfl,rfl⟩ | rfl) rfl)<| .cons (.assign (l1 rfl) (.const _ _ _))<| .nil _ _ _) ?_
 refine AWP.vs ⟨[(1,.ptr 1 0)],[(1,⟨37,false,(gW β1 β2 a0.Jb a0.Dn a0.Mt a0.Bo)⟩)]⟩ rfl rfl ?_
 refine AWP.seq ?_
 refine AWP.rg (.cons (.assign (l1 rfl) (.const _ _ _))<| .nil _ _ _) ?_
 refine AWP.vs ⟨[(1,.ptr 1 0),(3,iW (0 : Int))],[(1,⟨37,false,(gW β1 β2 a0.Jb a0.Dn a0.Mt a0.Bo)⟩)]⟩ rfl rfl ?_
 refine AWP.seq ?_
 refine AWP.seq ?_
 obtain ⟨y_1,hy_1,h⟩ := bindS h
 refine AWP.rg (.cons (.fieldP (l1 rfl) (.t rfl) fld37_0)<| .cons (.loadP (l1 rfl) (.t rfl) one35 rfl rfl rfl)<| .cons (.fieldP (l1 rfl) (.t rfl) fld37_1)<| .cons (.loadP (l1 rfl) (.t rfl) one23 rfl rfl rfl)<| .cons (.call0 (bw := false) (l1 rfl) (c57 (β1 := β1) (β2 := β2) n a0.Jb a0.Dn hy_1) (.cons (.t rfl) (.ren rfl) (.cons (.t rfl) (.ren rfl) (.nil))) rfl)<| .cons (.assign (l1 rfl) (.t rfl))<| .nil _ _ _) ?_
 refine AWP.vs ⟨[(1,.ptr 1 0),(3,iW (0 : Int)),(4,rW false y_1 eW)],[(1,⟨37,false,(gW β1 β2 a0.Jb a0.Dn a0.Mt a0.Bo)⟩)]⟩ rfl rfl ?_
 refine AWP.seq ?_
 refine AWP.rg (.cons (.move (l1 rfl) (.t rfl))<| .cons (.lenRd (l1 rfl) (.t rfl) Tryz.underlying23)<| .cons (.gtr (l1 rfl) (.t rfl) (.const _ _ _))<| .nil _ _ _) ?_
 refine AWP.vs ⟨[(1,.ptr 1 0),(3,iW (0 : Int)),(4,rW false y_1 eW),(16,bW (decide ((0 : Int) < (y_1.length : Int))))],[(1,⟨37,false,(gW β1 β2 a0.Jb a0.Dn a0.Mt a0.Bo)⟩)]⟩ rfl rfl ?_
 refine AWP.join' (S := fun p_3 : Int => ⟨[(1,.ptr 1 0),(3,iW p_3)],[(1,⟨37,false,(gW β1 β2 a0.Jb a0.Dn a0.Mt a0.Bo)⟩)]⟩) h (fun p_3 h => ?_) (fun k_4 h => ?_)
 ·refine AWP.seq ?_
  refine AWP.rg (.cons (.assign (l1 rfl) (.const _ _ _))<| .nil _ _ _) ?_
  refine AWP.vs ⟨[(1,.ptr 1 0),(3,iW p_3),(5,.sc (.slice none 0 0))],[(1,⟨37,false,(gW β1 β2 a0.Jb a0.Dn a0.Mt a0.Bo)⟩)]⟩ rfl rfl ?_
  refine AWP.seq ?_
  refine AWP.seq ?_
  refine AWP.rg (.cons (.fieldP (l1 rfl) (.t rfl) fld37_0)<| .cons (.loadP (l1 rfl) (.t rfl) one35 rfl rfl rfl)<| .cons (.lenRd (l1 rfl) (.t rfl) Tryz.underlying35)<| .cons (.move (l1 rfl) (.const _ _ _))<| .nil _ _ _) ?_
  refine AWP.vs ⟨[(1,.ptr 1 0),(3,iW p_3),(5,.sc (.slice none 0 0)),(24,rW β1 a0.Jb e63),(25,iW (a0.Jb.length : Int)),(26,iW (0 : Int))],[(1,⟨37,false,(gW β1 β2 a0.Jb a0.Dn a0.Mt a0.Bo)⟩)]⟩ rfl rfl ?_
  refine AWP.joinB' (S := fun p_30 : (List R63) => ⟨[(1,.ptr 1 0),(5,.own 2 3 0 p_30.length)],[(1,⟨37,false,(gW β1 β2 a0.Jb a0.Dn a0.Mt a0.Bo)⟩),(2,⟨64,true,p_30.flatMap e63⟩)]⟩) h (fun p_30 h => ?_) (fun k_31 h => ?_)
  ·refine AWP.seq ?_
   obtain ⟨y_32,hy_32,h⟩ := bindS h
   refine AWP.rg (.cons (.fieldP (l1 rfl) (.t rfl) fld37_0)<| .cons (.loadP (l1 rfl) (.t rfl) one35 rfl rfl rfl)<| .cons (.fieldP (l1 rfl) (.t rfl) fld37_1)<| .cons (.loadP (l1 rfl) (.t rfl) one23 rfl rfl rfl)<| .cons (.fieldP (l1 rfl) (.t rfl) fld37_2)<| .cons (.loadP (l1 rfl) (.t rfl) one4 rfl rfl rfl)<| .cons (.call0 (bw := false) (l1 rfl) (c35 (β1 := β1) (β2 := β2) n a0.Jb a0.Dn a0.Mt hy_32) (.cons (.t rfl) (.ren rfl) (.cons (.t rfl) (.ren rfl) (.cons (.t rfl) (.ren rfl) (.nil)))) rfl)<| .cons (.assign (l1 rfl) (.t rfl))<| .nil _ _ _) ?_
   refine AWP.vs ⟨[(1,.ptr 1 0),(5,.own 2 3 0 p_30.length),(8,iW y_32)],[(1,⟨37,false,(gW β1 β2 a0.Jb a0.Dn a0.Mt a0.Bo)⟩),(2,⟨64,true,p_30.flatMap e63⟩)]⟩ rfl rfl ?_
   refine AWP.seq ?_
   refine AWP.block ?_
   refine AWP.seq ?_
   refine AWP.rg (.cons (.fieldP (l1 rfl) (.t rfl) fld37_2)<| .cons (.loadP (l1 rfl) (.t rfl) one4 rfl rfl rfl)<| .cons (.not (l1 rfl) (.t rfl))<| .cons (.assign (l1 rfl) (.t rfl))<| .nil _ _ _) ?_
   refine AWP.vs ⟨[(1,.ptr 1 0),(5,.own 2 3 0 p_30.length),(8,iW y_32),(53,bW (!a0.Mt))],[(1,⟨37,false,(gW β1 β2 a0.Jb a0.Dn a0.Mt a0.Bo)⟩),(2,⟨64,true,p_30.flatMap e63⟩)]⟩ rfl rfl ?_
   refine AWP.cond (.t rfl) (fun hc => ?_) (fun hc => ?_)
   ·have h := iteT hc h
    refine AWP.seq ?_
    obtain ⟨y_33,hy_33,h⟩ := bindS h
    obtain ⟨t2_34,ht2_34,h⟩ := letS h
    refine AWP.rg (.cons (.move (l1 rfl) (.t rfl))<| .cons (.move (l1 rfl) (.t rfl))<| .cons (.call0 (bw := true) (l1 rfl) (c64 (β1 := true) n p_30 hy_33) (.cons (.t rfl) (.lendRow rfl rfl encR63_len rfl) (.nil)) rfl)<| .cons (.add (l1 rfl) (.t rfl) (.t rfl))<| .cons (.assign (l1 rfl) (.t rfl))<| .nil _ _ _) ?_
    refine AWP.ret ?_
    obtain rfl := Option.some.inj h
    refine retJ (Res.vc (s' := ⟨[(2,iW t2_34)],[]⟩) (by subst ht2_34; exact VC.sub (.of rfl) (.n _)) ?_)
    refine Res.drop (H := []) rfl ?_
    exact Res.of rfl (.cons (.tmp rfl) (.nil)) rfl rfl
   ·have h := iteF hc h
    refine AWP.seq ?_
    refine AWP.rg (.cons (.move (l1 rfl) (.t rfl))<| .cons (.lenOwn (l1 rfl) (.t rfl) Tryz.underlying35)<| .cons (.eql (l1 rfl) (.t rfl) (.const _ _ _))<| .cons (.assign (l1 rfl) (.t rfl))<| .nil _ _ _) ?_
    refine AWP.vs ⟨[(1,.ptr 1 0),(5,.own 2 3 0 p_30.length),(8,iW y_32),(61,bW (decide ((p_30.length : Int) = (0 : Int))))],[(1,⟨37,false,(gW β1 β2 a0.Jb a0.Dn a0.Mt a0.Bo)⟩),(2,⟨64,true,p_30.flatMap e63⟩)]⟩ rfl rfl ?_
    refine AWP.cond (.t rfl) (fun hc => ?_) (fun hc => ?_)
    ·have h := iteT hc h
     refine AWP.seq ?_
     refine AWP.rg (.cons (.move (l1 rfl) (.t rfl))<| .cons (.assign (l1 rfl) (.t rfl))<| .nil _ _ _) ?_
     refine AWP.ret ?_
     obtain rfl := Option.some.inj h
     refine retJ (Res.vc (s' := ⟨[(2,iW y_32)],[]⟩) (VC.sub (.of rfl) (.n _)) ?_)
     refine Res.drop (H := []) rfl ?_
     exact Res.of rfl (.cons (.tmp rfl) (.nil)) rfl rfl
    ·have h := iteF hc h
     refine AWP.seq ?_
     refine AWP.rg (.cons (.fieldP (l1 rfl) (.t rfl) fld37_1)<| .cons (.loadP (l1 rfl) (.t rfl) one23 rfl rfl rfl)<| .cons (.lenRd (l1 rfl) (.t rfl) Tryz.underlying23)<| .cons (.eql (l1 rfl) (.t rfl) (.const _ _ _))<| .cons (.assign (l1 rfl) (.t rfl))<| .nil _ _ _) ?_
     refine AWP.vs ⟨[(5,.own 2 3 0 p_30.length),(8,iW y_32),(66,bW (decide ((a0.Dn.length : Int) = (0 : Int))))],[(2,⟨64,true,p_30.flatMap e63⟩)]⟩ rfl rfl ?_
     refine AWP.cond (.t rfl) (fun hc => ?_) (fun hc => ?_)
     ·have h := iteT hc h
      refine AWP.seq ?_
      obtain ⟨y_35,hy_35,h⟩ := bindS h
      refine AWP.rg (.cons (.move (l1 rfl) (.t rfl))<| .cons (.call0 (bw := true) (l1 rfl) (c46 (β1 := true) n p_30 (1 : Int) hy_35) (.cons (.t rfl) (.lendRow rfl rfl encR63_len rfl) (.cons (.const _ _ _) (.ren rfl) (.nil))) rfl)<| .cons (.assign (l1 rfl) (.t rfl))<| .nil _ _ _) ?_
      refine AWP.ret ?_
      obtain rfl := Option.some.inj h
      refine retJ (Res.vc (s' := ⟨[(2,iW y_35)],[]⟩) (VC.sub (.of rfl) (.n _)) ?_)
      refine Res.drop (H := []) rfl ?_
      exact Res.of rfl (.cons (.tmp rfl) (.nil)) rfl rfl
     ·have h := iteF hc h
      refine AWP.skip ?_
      refine AWP.seq ?_
      obtain ⟨y_36,hy_36,h⟩ := bindS h
      obtain ⟨t2_37,ht2_37,h⟩ := letS h
      refine AWP.rg (.cons (.move (l1 rfl) (.t rfl))<| .cons (.move (l1 rfl) (.t rfl))<| .cons (.call0 (bw := true) (l1 rfl) (c46 (β1 := true) n p_30 (1 : Int) hy_36) (.cons (.t rfl) (.lendRow rfl rfl encR63_len rfl) (.cons (.const _ _ _) (.ren rfl) (.nil))) rfl)<| .cons (.max2 (l1 rfl) (.t rfl) (.t rfl))<| .cons (.assign (l1 rfl) (.t rfl))<| .nil _ _ _) ?_
      refine AWP.ret ?_
      obtain rfl := Option.some.inj h
      refine retJ (Res.vc (s' := ⟨[(2,iW t2_37)],[]⟩) (by subst ht2_37; exact VC.sub (.of rfl) (.n _)) ?_)
      refine Res.drop (H := []) rfl ?_
      exact Res.of rfl (.cons (.tmp rfl) (.nil)) rfl rfl
  ·refine AWP.vc (VC.nilOwn (d := 5) (t := 2) (sz := 3) (E := 64) rfl (nm rfl)) ?_
   refine AWP.vs ⟨[(1,.ptr 1 0),(3,iW p_3),(5,.own 2 3 0 ([] : List R63).length),(24,rW β1 a0.Jb e63),(25,iW (a0.Jb.length : Int)),(26,iW (0 : Int))],[(1,⟨37,false,(gW β1 β2 a0.Jb a0.Dn a0.Mt a0.Bo)⟩),(2,⟨64,true,([] : List R63).flatMap e63⟩)]⟩ rfl rfl ?_
   refine AWP.loopM (S := fun x_21 : Int × (List R63) => ⟨[(1,.ptr 1 0),(3,iW p_3),(5,.own 2 3 0 x_21.2.length),(24,rW β1 a0.Jb e63),(25,iW (a0.Jb.length : Int)),(26,iW x_21.1)],[(1,⟨37,false,(gW β1 β2 a0.Jb a0.Dn a0.Mt a0.Bo)⟩),(2,⟨64,true,x_21.2.flatMap e63⟩)]⟩) (x := ((0 : Int),([] : List R63))) (fun nx_22 x_21 h => ?_) h
   unfold m42_L1 at h
   refine AWP.seq ?_
   refine AWP.rg (.cons (.lss (l1 rfl) (.t rfl) (.t rfl))<| .nil _ _ _) ?_
   refine AWP.vs ⟨[(1,.ptr 1 0),(3,iW p_3),(5,.own 2 3 0 x_21.2.length),(24,rW β1 a0.Jb e63),(25,iW (a0.Jb.length : Int)),(26,iW x_21.1),(27,bW (decide (x_21.1 < (a0.Jb.length : Int))))],[(1,⟨37,false,(gW β1 β2 a0.Jb a0.Dn a0.Mt a0.Bo)⟩),(2,⟨64,true,x_21.2.flatMap e63⟩)]⟩ rfl rfl ?_
   refine AWP.seq ?_
   refine AWP.cond (.t rfl) (fun hc => ?_) (fun hc => ?_)
   ·have h := iteT hc h
    refine AWP.skip ?_
    refine AWP.seq ?_
    refine AWP.block ?_
    refine AWP.seq ?_
    obtain ⟨y_23,hy_23,h⟩ := bindS h
    refine AWP.rg (.cons (.move (l1 rfl) (.t rfl))<| .cons (.indexRd (enc := e63) (l1 rfl) (.t rfl) (.t rfl) Tryz.underlying35 sz64 encR63_len rfl hy_23)<| .cons (.loadRA (out := [iW y_23.Rl,iW y_23.Ln,iW y_23.Due]) (l1 rfl) (.t rfl) agg64 (Nat.le_of_eq (Eq.symm (encR63_len _))) rfl)<| .cons (.alloc (t := 3) (k := ⟨64,false,[iW (0 : Int),iW (0 : Int),iW (0 : Int)]⟩) (l1 rfl) (nm rfl) zero64 rfl rfl)<| .cons (.assign (l1 rfl) (.t rfl))<| .cons (.storePA (.t rfl) (.t rfl) sz64 rfl rfl (le1 rfl) (one_lit rfl) (by intro h; cases h) rfl)<| .nil _ _ _) ?_
    refine AWP.vs ⟨[(1,.ptr 1 0),(3,iW p_3),(5,.own 2 3 0 x_21.2.length),(24,rW β1 a0.Jb e63),(25,iW (a0.Jb.length : Int)),(26,iW x_21.1),(7,.ptr 3 0),(6,iW x_21.1)],[(3,⟨64,false,[iW y_23.Rl,iW y_23.Ln,iW y_23.Due]⟩),(1,⟨37,false,(gW β1 β2 a0.Jb a0.Dn a0.Mt a0.Bo)⟩),(2,⟨64,true,x_21.2.flatMap e63⟩)]⟩ rfl rfl ?_
    refine AWP.seq ?_
    obtain ⟨y_24,hy_24,h⟩ := bindS h
    refine AWP.rg (.cons (.fieldP (l1 rfl) (.t rfl) fld37_1)<| .cons (.loadP (l1 rfl) (.t rfl) one23 rfl rfl rfl)<| .cons (.move (l1 rfl) (.t rfl))<| .cons (.call0 (bw := false) (l1 rfl) (c51 (β1 := β2) n a0.Dn x_21.1 hy_24) (.cons (.t rfl) (.ren rfl) (.cons (.t rfl) (.ren rfl) (.nil))) rfl)<| .cons (.not (l1 rfl) (.t rfl))<| .nil _ _ _) ?_
    refine AWP.vs ⟨[(1,.ptr 1 0),(3,iW p_3),(5,.own 2 3 0 x_21.2.length),(24,rW β1 a0.Jb e63),(25,iW (a0.Jb.length : Int)),(26,iW x_21.1),(7,.ptr 3 0),(35,bW (!y_24))],[(3,⟨64,false,[iW y_23.Rl,iW y_23.Ln,iW y_23.Due]⟩),(1,⟨37,false,(gW β1 β2 a0.Jb a0.Dn a0.Mt a0.Bo)⟩),(2,⟨64,true,x_21.2.flatMap e63⟩)]⟩ rfl rfl ?_
    refine AWP.join' (S := fun p_27 : (List R63) => ⟨[(1,.ptr 1 0),(3,iW p_3),(5,.own 2 3 0 p_27.length),(24,rW β1 a0.Jb e63),(25,iW (a0.Jb.length : Int)),(26,iW x_21.1)],[(1,⟨37,false,(gW β1 β2 a0.Jb a0.Dn a0.Mt a0.Bo)⟩),(2,⟨64,true,p_27.flatMap e63⟩)]⟩) h (fun p_27 h => ?_) (fun k_28 h => ?_)
    ·obtain ⟨t26_29,ht26_29,h⟩ := letS h
     refine AWP.rg (.cons (.add (l1 rfl) (.t rfl) (.const _ _ _))<| .cons (.move (l1 rfl) (.t rfl))<| .nil _ _ _) ?_
     exact endJ (t26_29,p_27) h (by subst ht26_29; exact VC.sub (.of rfl) (.of rfl))
    ·refine AWP.cond (.t rfl) (fun hc => ?_) (fun hc => ?_)
     ·have h := iteT hc h
      refine AWP.seq ?_
      obtain ⟨c_25,hc_25,h⟩ := letS h
      refine AWP.rg (.cons (.fieldP (l1 rfl) (.t rfl) fld64_0)<| .cons (.loadP (l1 rfl) (.t rfl) one3 rfl rfl rfl)<| .cons (.move (l1 rfl) (.t rfl))<| .cons (.max2 (l1 rfl) (.t rfl) (.t rfl))<| .cons (.fieldP (l1 rfl) (.t rfl) fld64_0)<| .cons (.storeP (.t rfl) (.t rfl) sz3 rfl (l1 rfl) rfl (by intro h; cases h) rfl)<| .nil _ _ _) ?_
      refine AWP.vc (s' := ⟨[(1,.ptr 1 0),(3,iW p_3),(5,.own 2 3 0 x_21.2.length),(24,rW β1 a0.Jb e63),(25,iW (a0.Jb.length : Int)),(26,iW x_21.1),(7,.ptr 3 0)],[(3,⟨64,false,[iW c_25,iW y_23.Ln,iW y_23.Due]⟩),(1,⟨37,false,(gW β1 β2 a0.Jb a0.Dn a0.Mt a0.Bo)⟩),(2,⟨64,true,x_21.2.flatMap e63⟩)]⟩) (by subst hc_25; exact VC.sub (.of rfl) (.of rfl)) ?_
      obtain ⟨l2_26,hl2_26,h⟩ := bindS h
      refine AWP.rg (.cons (.move (l1 rfl) (.t rfl))<| .cons (.loadPA (l1 rfl) (.t rfl) agg64 rfl rfl rfl rfl)<| .cons (.buildSlice (t := 4) (out := ([(R63.mk c_25 y_23.Ln y_23.Due)] : List R63).flatMap e63) (l1 rfl) (nm rfl) (.cons (.t rfl) (by first | exact ⟨rfl,rfl⟩ | rfl) (.nil)) Tryz.underlying35 zero64 el64 (by decide) (by decide) rfl (still_all encR63_still _))<| .cons (.app (enc := e63) (l1 rfl) (nm rfl) (.t rfl) (Src.own (.t rfl) rfl (lendAll encR63_len _) (flatMap_length encR63_len _) (one_all encR63_one _) (.inl rfl)) Tryz.underlying35 ⟨_,Tryz.underlying35,by intro k hk; cases hk⟩ el64 rfl encR63_len rfl rfl (by decide) hl2_26)<| .cons (.assign (l1 rfl) (.t rfl))<| .nil _ _ _) ?_
      exact endJ l2_26 h (VC.sub (.of rfl) (.of rfl))
     ·have h := iteF hc h
      refine AWP.skip ?_
      exact endJ x_21.2 h (VC.sub (.of rfl) (.of rfl))
   ·have h := iteF hc h
    refine AWP.exit ?_
    exact endJ x_21.2 h (VC.sub (.of rfl) (.of rfl))
 ·refine AWP.cond (.t rfl) (fun hc => ?_) (fun hc => ?_)
  ·have h := iteT hc h
   obtain ⟨y_2,hy_2,h⟩ := bindS h
   refine AWP.rg (.cons (.move (l1 rfl) (.t rfl))<| .cons (.move (l1 rfl) (.t rfl))<| .cons (.lenRd (l1 rfl) (.t rfl) Tryz.underlying23)<| .cons (.sub (l1 rfl) (.t rfl) (.const _ _ _))<| .cons (.indexRd (enc := eW) (l1 rfl) (.t rfl) (.t rfl) Tryz.underlying23 sz3 (encI_len .i64) rfl hy_2)<| .cons (.loadR (v := iW y_2) (l1 rfl) (.t rfl) one3 rfl)<| .cons (.assign (l1 rfl) (.t rfl))<| .nil _ _ _) ?_
   exact endJ y_2 h (VC.sub (.of rfl) (.of rfl))
  ·have h := iteF hc h
   refine AWP.skip ?_
   exact endJ (0 : Int) h (VC.sub (.of rfl) (.of rfl))
theorem c30 {β1 : Bool} {β2 : Bool} {β3 : Bool} (n : Nat) (a0 : R36) (a1 : (List Int)) {r : Bool} (h : m30 n a0 a1 = some r) : Spec Tryz.prog 30 [] [.agg (gW β1 β2 a0.Jb a0.Dn a0.Mt a0.Bo),rW β3 a1 eW] [] (bW r) [] := by
 refine Spec.of (fn := Tryz.f30) Tryz.func30 Tryz.ntmps30 rfl rfl (le1 rfl) (fun w0 Zs Zb T0 ι0 => ?_)
 unfold m30 at h
 refine AWP.seq ?_
 refine AWP.rg (.cons (.box (t := 1) (n := 4) (l1 rfl) (nm rfl) (.t rfl) (by first | exact ⟨rfl,rfl⟩ | rfl) rfl)<| .cons (.assign (l1 rfl) (.const _ _ _))<| .nil _ _ _) ?_
 refine AWP.vs ⟨[(1,rW β3 a1 eW),(2,.ptr 1 0)],[(1,⟨37,false,(gW β1 β2 a0.Jb a0.Dn a0.Mt a0.Bo)⟩)]⟩ rfl rfl ?_
 refine AWP.seq ?_
 obtain ⟨y_1,hy_1,h⟩ := bindS h
 obtain ⟨y_2,hy_2,h⟩ := bindS h
 refine AWP.dw mixed [(1,rW β3 a1 eW),(2,.ptr 1 0)] [] [dO [0] 5 (rW β3 a1 eW),dO [2] 6 (iW (a1.length : Int)),dO [3] 7 (bW (decide ((a1.length : Int) = (0 : Int)))),dO [4] 8 (bW (decide ((a1.length : Int) = (0 : Int)))),dO [5,1] 9 (.gd (decide ((a1.length : Int) = (0 : Int))) (.agg (gW β1 β2 a0.Jb a0.Dn a0.Mt a0.Bo))),dO [5,6] 10 (.gd (decide ((a1.length : Int) = (0 : Int))) (bW y_1)),dO [5,7] 11 (bW ((decide ((a1.length : Int) = (0 : Int))) && y_1)),dO [8] 12 (bW ((decide ((a1.length : Int) = (0 : Int))) && y_1)),dO [9,1] 13 (.gd ((decide ((a1.length : Int) = (0 : Int))) && y_1) (.ptr 1 (0 + 3))),dO [9,10] 14 (.gd ((decide ((a1.length : Int) = (0 : Int))) && y_1) (iW a0.Bo)),dO [9,1] 15 (.gd ((decide ((a1.length : Int) = (0 : Int))) && y_1) (.agg (gW β1 β2 a0.Jb a0.Dn a0.Mt a0.Bo))),dO [9,12] 16 (.gd ((decide ((a1.length : Int) = (0 : Int))) && y_1) (iW y_2)),dO [9,11,13] 17 (.gd ((decide ((a1.length : Int) = (0 : Int))) && y_1) (bW (decide (a0.Bo ≤ y_2)))),dO [9,14] 18 (bW (((decide ((a1.length : Int) = (0 : Int))) && y_1) && (decide (a0.Bo ≤ y_2)))),dO [15] 4 (bW (((decide ((a1.length : Int) = (0 : Int))) && y_1) && (decide (a0.Bo ≤ y_2))))] [] [[(1,⟨37,false,(gW β1 β2 a0.Jb a0.Dn a0.Mt a0.Bo)⟩)]] [[],[0,1],[0,2],[0,3],[0,4],[0,5],[0,6],[0,7],[0,8],[0,9],[0,8],[0,8,10,11],[0,12],[0,13],[0,14]] [16] rfl rfl (by kernel_rfl) rfl (.p rfl (fun _ q _ => .move (l1 rfl) (q.t 0 rfl))<| .p rfl (fun _ q _ => .lenRd (l1 rfl) (q.t 0 rfl) Tryz.underlying23)<| .p rfl (fun _ q _ => .eql (l1 rfl) (q.t 0 rfl) (.const _ _ _))<| .p rfl (fun _ q _ => .move (l1 rfl) (q.t 0 rfl))<| .rt rfl rfl rfl rfl rfl rfl (fun hg _ q => .loadPA (l1 rfl) (q.t 1 rfl) agg37 rfl rfl rfl rfl)<| .gt rfl rfl rfl rfl rfl (fun hg _ q _ => .call0 (bw := false) (l1 rfl) (c27 (β1 := β1) (β2 := β2) n (R36.mk a0.Jb a0.Dn a0.Mt a0.Bo) (gdB hy_1 hg)) (.cons (.gd hg (q.t 1 rfl)) (.ren rfl) (.nil)) rfl)<| .p rfl (fun _ q _ => .pickAnd (l1 rfl) (q.t 0 rfl) (q.t 1 rfl) (.const _ _ _))<| .p rfl (fun _ q _ => .move (l1 rfl) (q.t 0 rfl))<| .rt rfl rfl rfl rfl rfl rfl (fun hg _ q => .fieldP (l1 rfl) (q.t 1 rfl) fld37_3)<| .rt rfl rfl rfl rfl rfl rfl (fun hg _ q => .loadP (l1 rfl) (.gd hg (q.t 1 rfl)) one3 rfl rfl rfl)<| .rt rfl rfl rfl rfl rfl rfl (fun hg _ q => .loadPA (l1 rfl) (q.t 1 rfl) agg37 rfl rfl rfl rfl)<| .gt rfl rfl rfl rfl rfl (fun hg _ q _ => .call0 (bw := false) (l1 rfl) (c42 (β1 := β1) (β2 := β2) n (R36.mk a0.Jb a0.Dn a0.Mt a0.Bo) (gdB hy_2 hg)) (.cons (.gd hg (q.t 1 rfl)) (.ren rfl) (.nil)) rfl)<| .gt rfl rfl rfl rfl rfl (fun hg _ q _ => .leq (l1 rfl) (.gd hg (q.t 1 rfl)) (.gd hg (q.t 2 rfl)))<| .p rfl (fun _ q _ => .pickAnd (l1 rfl) (q.t 0 rfl) (q.t 1 rfl) (.const _ _ _))<| .p rfl (fun _ q _ => .assign (l1 rfl) (q.t 0 rfl))<| .nil _) rfl rfl ?_
 refine AWP.ret ?_
 obtain rfl := Option.some.inj h
 refine retJ (Res.vc (s' := ⟨[(4,bW (((decide ((a1.length : Int) = (0 : Int))) && y_1) && (decide (a0.Bo ≤ y_2))))],[]⟩) (VC.sub (.of rfl) (.n _)) ?_)
 refine Res.drop (H := []) rfl ?_
 exact Res.of rfl (.cons (.tmp rfl) (.nil)) rfl rfl
theorem c52o {β1 : Bool} (n : Nat) (a0 : (List Int)) {r : (List Int)} (h : m52o n a0 = some r) : Spec Tryz.prog 52 [] [rW β1 a0 eW] [] (.own 1 1 0 r.length) [(1,⟨3,true,r.flatMap eW⟩)] := by
 refine Spec.of (fn := Tryz.f52) Tryz.func52 Tryz.ntmps52 rfl rfl (le1 rfl) (fun w0 Zs Zb T0 ι0 => ?_)
 unfold m52o at h
 refine AWP.seq ?_
 refine AWP.rg (.cons (.assign (l1 rfl) (.const _ _ _))<| .nil _ _ _) ?_
 refine AWP.vs ⟨[(0,rW β1 a0 eW)],[]⟩ rfl rfl ?_
 refine AWP.seq ?_
 refine AWP.seq ?_
 refine AWP.regionE (S := fun q_1 => ⟨[(0,rW β1 a0 eW),(4,bW (decide (a0.length = 0 ∧ q_1 = 0)))],[]⟩) (.cons (.move (l1 rfl) (.t rfl))<| .consE (AStepE.eqNil0 (l1 rfl) (.t rfl) Tryz.underlying23)<| fun q_1 => ARunE.nilV q_1 (VC.sub (.of rfl) (.n _))) (fun q_1 => ?_)
 refine AWP.cond (.t rfl) (fun hc => ?_) (fun hc => ?_)
 ·have h := cloneNil hc h
  refine AWP.seq ?_
  refine AWP.rg (.cons (.assign (l1 rfl) (.const _ _ _))<| .nil _ _ _) ?_
  refine AWP.ret ?_
  obtain rfl := Option.some.inj h
  refine retJ (Res.vc (s' := ⟨[(2,.own 1 1 0 ([] : List Int).length)],[(1,⟨3,true,([] : List Int).flatMap eW⟩)]⟩) (VC.trans (VC.nilOwn (d := 2) (t := 1) (sz := 1) (E := 3) rfl (nm rfl)) (VC.sub (.of rfl) (.of rfl))) ?_)
  refine Res.sub (H := [(1,⟨3,true,([] : List Int).flatMap eW⟩)]) (.of rfl) ?_
  exact Res.of rfl (.cons (.tmp rfl) (.nil)) rfl rfl
 ·refine AWP.skip ?_
  refine AWP.seq ?_
  obtain ⟨l1_2,hl1_2,h⟩ := bindS h
  refine AWP.rg (.cons (.buildSlice (t := 1) (out := ([] : List Int).flatMap eW) (l1 rfl) (nm rfl) (.nil) Tryz.underlying23 zero3 el3 (by decide) (by decide) rfl (still_all (encI_still .i64) _))<| .cons (.move (l1 rfl) (.t rfl))<| .cons (.app (enc := eW) (l1 rfl) (nm rfl) (.t rfl) (Src.rd (.t rfl) (flatMap_length (encI_len .i64) _) (one_all (encI_one .i64) _) (.inr (scal_all (encI_scal .i64) _))) Tryz.underlying23 ⟨_,Tryz.underlying23,by intro k hk; cases hk⟩ el3 rfl (encI_len .i64) rfl rfl (by decide) hl1_2)<| .cons (.assign (l1 rfl) (.t rfl))<| .nil _ _ _) ?_
  refine AWP.ret ?_
  obtain rfl := Option.some.inj h
  refine retJ (Res.vc (s' := ⟨[(2,.own 1 1 0 l1_2.length)],[(1,⟨3,true,l1_2.flatMap eW⟩)]⟩) (VC.sub (.of rfl) (.of rfl)) ?_)
  refine Res.sub (H := [(1,⟨3,true,l1_2.flatMap eW⟩)]) (.of rfl) ?_
  exact Res.of rfl (.cons (.tmp rfl) (.nil)) rfl rfl
theorem c29 {β2 : Bool} (n : Nat) (a0 : R36) (a1 : Int) {r : ((List R36) × Bool)} (h : m29 n a0 a1 = some r) : Spec Tryz.prog 29 [] [.agg (gW false β2 a0.Jb a0.Dn a0.Mt a0.Bo),iW a1] [] (.tup [rW false r.1 encR36,bW r.2]) [] := by
 refine Spec.of (fn := Tryz.f29) Tryz.func29 Tryz.ntmps29 rfl rfl (le1 rfl) (fun w0 Zs Zb T0 ι0 => ?_)
 unfold m29 at h
 refine AWP.seq ?_
 refine AWP.rg (.cons (.box (t := 1) (n := 4) (l1 rfl) (nm rfl) (.t rfl) (by first | exact ⟨rfl,rfl⟩ | rfl) rfl)<| .cons (.assign (l1 rfl) (.const _ _ _))<| .cons (.assign (l1 rfl) (.const _ _ _))<| .nil _ _ _) ?_
 refine AWP.vs ⟨[(1,iW a1),(2,.ptr 1 0)],[(1,⟨37,false,(gW false β2 a0.Jb a0.Dn a0.Mt a0.Bo)⟩)]⟩ rfl rfl ?_
 refine AWP.seq ?_
 refine AWP.seq ?_
 obtain ⟨y_1,hy_1,h⟩ := bindS h
 refine AWP.rg (.cons (.move (l1 rfl) (.t rfl))<| .cons (.neq (l1 rfl) (.t rfl) (.const _ _ _))<| .cons (.move (l1 rfl) (.t rfl))<| .guard (j := 2) (dj := 10) rfl (l1 rfl) rfl (l1 rfl) (fun hg => .loadPA (l1 rfl) (.t rfl) agg37 rfl rfl rfl rfl)<| .guard (j := 2) (dj := 10) rfl (l1 rfl) rfl (l1 rfl) (fun hg => .call0 (bw := false) (l1 rfl) (c27 (β1 := false) (β2 := β2) n (R36.mk a0.Jb a0.Dn a0.Mt a0.Bo) (gdB hy_1 hg)) (.cons (.gd hg (.t rfl)) (.ren rfl) (.nil)) rfl)<| .guard (j := 2) (dj := 10) rfl (l1 rfl) rfl (l1 rfl) (fun hg => .not (l1 rfl) (.gd hg (.t rfl)))<| .cons (.pickOr (l1 rfl) (.t rfl) (.const _ _ _) (.t rfl))<| .cons (.move (l1 rfl) (.t rfl))<| .guard (j := 7) (dj := 15) rfl (l1 rfl) rfl (l1 rfl) (fun hg => .fieldP (l1 rfl) (.t rfl) fld37_1)<| .guard (j := 7) (dj := 15) rfl (l1 rfl) rfl (l1 rfl) (fun hg => .loadP (l1 rfl) (.gd hg (.t rfl)) one23 rfl rfl rfl)<| .guard (j := 7) (dj := 15) rfl (l1 rfl) rfl (l1 rfl) (fun hg => .lenRd (l1 rfl) (.gd hg (.t rfl)) Tryz.underlying23)<| .guard (j := 7) (dj := 15) rfl (l1 rfl) rfl (l1 rfl) (fun hg => .fieldP (l1 rfl) (.t rfl) fld37_0)<| .guard (j := 7) (dj := 15) rfl (l1 rfl) rfl (l1 rfl) (fun hg => .loadP (l1 rfl) (.gd hg (.t rfl)) one35 rfl rfl rfl)<| .guard (j := 7) (dj := 15) rfl (l1 rfl) rfl (l1 rfl) (fun hg => .lenRd (l1 rfl) (.gd hg (.t rfl)) Tryz.underlying35)<| .guard (j := 7) (dj := 15) rfl (l1 rfl) rfl (l1 rfl) (fun hg => .eql (l1 rfl) (.gd hg (.t rfl)) (.gd hg (.t rfl)))<| .cons (.pickOr (l1 rfl) (.t rfl) (.const _ _ _) (.t rfl))<| .nil _ _ _) ?_
 refine AWP.vs ⟨[(2,.ptr 1 0),(23,bW (((!decide (a1 = (0 : Int))) || (!y_1)) || (decide ((a0.Dn.length : Int) = (a0.Jb.length : Int)))))],[(1,⟨37,false,(gW false β2 a0.Jb a0.Dn a0.Mt a0.Bo)⟩)]⟩ rfl rfl ?_
 refine AWP.cond (.t rfl) (fun hc => ?_) (fun hc => ?_)
 ·have h := iteT hc h
  refine AWP.seq ?_
  refine AWP.rg (.cons (.assign (l1 rfl) (.const _ _ _))<| .cons (.assign (l1 rfl) (.const _ _ _))<| .nil _ _ _) ?_
  refine AWP.ret ?_
  obtain rfl := Option.some.inj h
  refine retJ (Res.vc (s' := ⟨[(4,rW false ([] : List R36) encR36),(5,bW false)],[]⟩) (VC.trans (VC.nilRd (d := 4) false rfl) (VC.sub (.of rfl) (.n _))) ?_)
  refine Res.drop (H := []) rfl ?_
  exact Res.of rfl (.cons (.tmp rfl) (.cons (.tmp rfl) (.nil))) rfl rfl
 ·have h := iteF hc h
  refine AWP.skip ?_
  refine AWP.seq ?_
  refine AWP.rg (.cons (.assign (l1 rfl) (.const _ _ _))<| .nil _ _ _) ?_
  refine AWP.vs ⟨[(2,.ptr 1 0),(6,.sc (.slice none 0 0))],[(1,⟨37,false,(gW false β2 a0.Jb a0.Dn a0.Mt a0.Bo)⟩)]⟩ rfl rfl ?_
  refine AWP.seq ?_
  refine AWP.seq ?_
  refine AWP.rg (.cons (.fieldP (l1 rfl) (.t rfl) fld37_0)<| .cons (.loadP (l1 rfl) (.t rfl) one35 rfl rfl rfl)<| .cons (.lenRd (l1 rfl) (.t rfl) Tryz.underlying35)<| .cons (.move (l1 rfl) (.const _ _ _))<| .nil _ _ _) ?_
  refine AWP.vs ⟨[(2,.ptr 1 0),(6,.sc (.slice none 0 0)),(26,iW (a0.Jb.length : Int)),(27,iW (0 : Int))],[(1,⟨37,false,(gW false β2 a0.Jb a0.Dn a0.Mt a0.Bo)⟩)]⟩ rfl rfl ?_
  refine AWP.joinB' (S := fun p_27 : (List R36) => ⟨[(6,.own 2 4 0 p_27.length)],[(2,⟨37,true,p_27.flatMap encR36⟩)]⟩) h (fun p_27 h => ?_) (fun k_28 h => ?_)
  ·refine AWP.seq ?_
   refine AWP.rg (.cons (.move (l1 rfl) (.t rfl))<| .cons (.assign (l1 rfl) (.t rfl))<| .cons (.assign (l1 rfl) (.const _ _ _))<| .nil _ _ _) ?_
   refine AWP.ret ?_
   obtain rfl := Option.some.inj h
   refine retJ (Res.vc (s' := ⟨[(4,rW false p_27 encR36),(5,bW true)],[]⟩) (VC.trans (VC.frz (d := 4) (t := 2) rfl rfl encR36_len) (VC.sub (.of rfl) (.n _))) ?_)
   refine Res.drop (H := []) rfl ?_
   exact Res.of rfl (.cons (.tmp rfl) (.cons (.tmp rfl) (.nil))) rfl rfl
  ·refine AWP.vc (VC.nilOwn (d := 6) (t := 2) (sz := 4) (E := 37) rfl (nm rfl)) ?_
   refine AWP.vs ⟨[(2,.ptr 1 0),(6,.own 2 4 0 ([] : List R36).length),(26,iW (a0.Jb.length : Int)),(27,iW (0 : Int))],[(1,⟨37,false,(gW false β2 a0.Jb a0.Dn a0.Mt a0.Bo)⟩),(2,⟨37,true,([] : List R36).flatMap encR36⟩)]⟩ rfl rfl ?_
   refine AWP.loopM (S := fun x_18 : Int × (List R36) => ⟨[(2,.ptr 1 0),(6,.own 2 4 0 x_18.2.length),(26,iW (a0.Jb.length : Int)),(27,iW x_18.1)],[(1,⟨37,false,(gW false β2 a0.Jb a0.Dn a0.Mt a0.Bo)⟩),(2,⟨37,true,x_18.2.flatMap encR36⟩)]⟩) (x := ((0 : Int),([] : List R36))) (fun nx_19 x_18 h => ?_) h
   unfold m29_L1 at h
   refine AWP.seq ?_
   refine AWP.rg (.cons (.lss (l1 rfl) (.t rfl) (.t rfl))<| .nil _ _ _) ?_
   refine AWP.vs ⟨[(2,.ptr 1 0),(6,.own 2 4 0 x_18.2.length),(26,iW (a0.Jb.length : Int)),(27,iW x_18.1),(28,bW (decide (x_18.1 < (a0.Jb.length : Int))))],[(1,⟨37,false,(gW false β2 a0.Jb a0.Dn a0.Mt a0.Bo)⟩),(2,⟨37,true,x_18.2.flatMap encR36⟩)]⟩ rfl rfl ?_
   refine AWP.seq ?_
   refine AWP.cond (.t rfl) (fun hc => ?_) (fun hc => ?_)
   ·have h := iteT hc h
    refine AWP.skip ?_
    refine AWP.seq ?_
    refine AWP.block ?_
    refine AWP.seq ?_
    refine AWP.rg (.cons (.move (l1 rfl) (.t rfl))<| .cons (.assign (l1 rfl) (.t rfl))<| .nil _ _ _) ?_
    refine AWP.vs ⟨[(2,.ptr 1 0),(6,.own 2 4 0 x_18.2.length),(26,iW (a0.Jb.length : Int)),(27,iW x_18.1),(7,iW x_18.1)],[(1,⟨37,false,(gW false β2 a0.Jb a0.Dn a0.Mt a0.Bo)⟩),(2,⟨37,true,x_18.2.flatMap encR36⟩)]⟩ rfl rfl ?_
    refine AWP.seq ?_
    obtain ⟨y_20,hy_20,h⟩ := bindS h
    refine AWP.rg (.cons (.fieldP (l1 rfl) (.t rfl) fld37_1)<| .cons (.loadP (l1 rfl) (.t rfl) one23 rfl rfl rfl)<| .cons (.move (l1 rfl) (.t rfl))<| .cons (.call0 (bw := false) (l1 rfl) (c51 (β1 := β2) n a0.Dn x_18.1 hy_20) (.cons (.t rfl) (.ren rfl) (.cons (.t rfl) (.ren rfl) (.nil))) rfl)<| .cons (.not (l1 rfl) (.t rfl))<| .nil _ _ _) ?_
    refine AWP.vs ⟨[(2,.ptr 1 0),(6,.own 2 4 0 x_18.2.length),(26,iW (a0.Jb.length : Int)),(27,iW x_18.1),(7,iW x_18.1),(34,bW (!y_20))],[(1,⟨37,false,(gW false β2 a0.Jb a0.Dn a0.Mt a0.Bo)⟩),(2,⟨37,true,x_18.2.flatMap encR36⟩)]⟩ rfl rfl ?_
    refine AWP.join' (S := fun p_24 : (List R36) => ⟨[(2,.ptr 1 0),(6,.own 2 4 0 p_24.length),(26,iW (a0.Jb.length : Int)),(27,iW x_18.1)],[(1,⟨37,false,(gW false β2 a0.Jb a0.Dn a0.Mt a0.Bo)⟩),(2,⟨37,true,p_24.flatMap encR36⟩)]⟩) h (fun p_24 h => ?_) (fun k_25 h => ?_)
    ·obtain ⟨t27_26,ht27_26,h⟩ := letS h
     refine AWP.rg (.cons (.add (l1 rfl) (.t rfl) (.const _ _ _))<| .cons (.move (l1 rfl) (.t rfl))<| .nil _ _ _) ?_
     exact endJ (t27_26,p_24) h (by subst ht27_26; exact VC.sub (.of rfl) (.of rfl))
    ·refine AWP.cond (.t rfl) (fun hc => ?_) (fun hc => ?_)
     ·have h := iteT hc h
      obtain ⟨y_21,hy_21,h⟩ := bindS h
      obtain ⟨l3_22,hl3_22,h⟩ := bindS h
      obtain ⟨l2_23,hl2_23,h⟩ := bindS h
      refine AWP.dw mixed [(2,.ptr 1 0),(6,.own 2 4 0 x_18.2.length),(7,iW x_18.1),(26,iW (a0.Jb.length : Int)),(27,iW x_18.1),(34,bW (!y_20))] [(1,[15,16]),(6,[15]),(11,[8])] [⟨[1],0,2,some (35,.own 2 4 0 x_18.2.length),[]⟩,⟨[0],0,2,some (36,.ptr 1 (0 + 0)),[]⟩,⟨[7],0,2,some (37,rW false a0.Jb e63),[]⟩,dO [0] 38 (.ptr 1 (0 + 1)),dO [9] 39 (rW β2 a0.Dn eW),⟨[10],0,0,some (40,.own 3 1 0 y_21.length),[3]⟩,⟨[2],0,3,some (41,iW x_18.1),[]⟩,⟨[12],0,3,some (42,rW false ([x_18.1] : List Int) eW),[]⟩,⟨[11,13],1,1,some (43,rW false l3_22 eW),[3]⟩,⟨[0],0,2,some (44,.ptr 1 (0 + 2)),[]⟩,⟨[15],0,2,some (45,bW a0.Mt),[]⟩,⟨[0],0,2,some (46,.ptr 1 (0 + 3)),[]⟩,⟨[17],0,2,some (47,iW a0.Bo),[]⟩,⟨[8,14,16,18],0,3,some (48,.agg [rW false a0.Jb e63,rW false l3_22 eW,bW a0.Mt,iW a0.Bo]),[]⟩,⟨[19],0,3,some (49,rW false ([(R36.mk a0.Jb l3_22 a0.Mt a0.Bo)] : List R36) encR36),[]⟩,⟨[6,20],2,2,some (50,.own 2 4 0 l2_23.length),[2]⟩,⟨[21],3,3,some (6,.own 2 4 0 l2_23.length),[]⟩] [5,8,15] [[(1,⟨37,false,(gW false β2 a0.Jb a0.Dn a0.Mt a0.Bo)⟩),(2,⟨37,true,x_18.2.flatMap encR36⟩)],[(3,⟨3,true,y_21.flatMap eW⟩),(1,⟨37,false,(gW false β2 a0.Jb a0.Dn a0.Mt a0.Bo)⟩),(2,⟨37,true,x_18.2.flatMap encR36⟩)],[(1,⟨37,false,(gW false β2 a0.Jb a0.Dn a0.Mt a0.Bo)⟩),(2,⟨37,true,x_18.2.flatMap encR36⟩)],[(2,⟨37,true,l2_23.flatMap encR36⟩),(1,⟨37,false,(gW false β2 a0.Jb a0.Dn a0.Mt a0.Bo)⟩)]] [[],[],[1,2],[],[3,4],[3,5],[],[6,7],[3,8],[],[9,10],[],[11,12],[1,13],[1,14],[0,15],[0,16]] [0,22,3,4] rfl rfl (by kernel_rfl) rfl (.read rfl (.c (.put (fun E hE => .move (l1 rfl) (hE.t 0 rfl))) (.c (.put (fun E hE => .move (l1 rfl) (hE.t 0 rfl))) (.c (.put (fun E hE => .move (l1 rfl) (hE.t 0 rfl))) (.n))))<| .read rfl (.c (.put (fun E hE => .fieldP (l1 rfl) (hE.t 0 rfl) fld37_0)) (.c (.put (fun E hE => .fieldP (l1 rfl) (hE.t 0 rfl) fld37_0)) (.c (.put (fun E hE => .fieldP (l1 rfl) (hE.t 0 rfl) fld37_0)) (.n))))<| .read rfl (.c (.put (fun E hE => .loadP (l1 rfl) (hE.t 0 rfl) one35 rfl rfl rfl)) (.c (.put (fun E hE => .loadP (l1 rfl) (hE.t 0 rfl) one35 rfl rfl rfl)) (.c (.put (fun E hE => .loadP (l1 rfl) (hE.t 0 rfl) one35 rfl rfl rfl)) (.n))))<| .read rfl (.c (.put (fun E hE => .fieldP (l1 rfl) (hE.t 0 rfl) fld37_1)) (.n))<| .read rfl (.c (.put (fun E hE => .loadP (l1 rfl) (hE.t 0 rfl) one23 rfl rfl rfl)) (.n))<| .turn rfl rfl rfl rfl rfl (.called (fun E hE => AStep.call (σ := fun _ => 3) (bw := false) (l1 rfl) (c52o (β1 := β2) n a0.Dn hy_21) (.cons (hE.t 0 rfl) (.ren rfl) (.nil)) (CallOk.mk' (.n) rfl)) rfl rfl rfl)<| .p rfl (fun _ q _ => .move (l1 rfl) (q.t 0 rfl))<| .p rfl (fun _ q _ => .frzAny (fun t ht => AStep.buildSlice (t := t) (out := ([x_18.1] : List Int).flatMap eW) (l1 rfl) ht (.cons (q.t 0 rfl) (by first | exact ⟨rfl,rfl⟩ | rfl) (.nil)) Tryz.underlying23 zero3 el3 (by decide) (by decide) rfl (still_all (encI_still .i64) _)) rfl (encI_len .i64))<| .turn rfl rfl rfl rfl rfl (.appFrz (fun E hE => .app (enc := eW) (l1 rfl) (nm rfl) (hE.t 0 rfl) (Src.rd (hE.t 1 rfl) (flatMap_length (encI_len .i64) _) (one_all (encI_one .i64) _) (.inl rfl)) Tryz.underlying23 ⟨_,Tryz.underlying23,by intro k hk; cases hk⟩ el3 rfl (encI_len .i64) rfl rfl (by decide) hl3_22) rfl (encI_len .i64))<| .read rfl (.c (.put (fun E hE => .fieldP (l1 rfl) (hE.t 0 rfl) fld37_2)) (.c (.put (fun E hE => .fieldP (l1 rfl) (hE.t 0 rfl) fld37_2)) (.c (.put (fun E hE => .fieldP (l1 rfl) (hE.t 0 rfl) fld37_2)) (.n))))<| .read rfl (.c (.put (fun E hE => .loadP (l1 rfl) (hE.t 0 rfl) one4 rfl rfl rfl)) (.c (.put (fun E hE => .loadP (l1 rfl) (hE.t 0 rfl) one4 rfl rfl rfl)) (.c (.put (fun E hE => .loadP (l1 rfl) (hE.t 0 rfl) one4 rfl rfl rfl)) (.n))))<| .read rfl (.c (.put (fun E hE => .fieldP (l1 rfl) (hE.t 0 rfl) fld37_3)) (.c (.put (fun E hE => .fieldP (l1 rfl) (hE.t 0 rfl) fld37_3)) (.c (.put (fun E hE => .fieldP (l1 rfl) (hE.t 0 rfl) fld37_3)) (.n))))<| .read rfl (.c (.put (fun E hE => .loadP (l1 rfl) (hE.t 0 rfl) one3 rfl rfl rfl)) (.c (.put (fun E hE => .loadP (l1 rfl) (hE.t 0 rfl) one3 rfl rfl rfl)) (.c (.put (fun E hE => .loadP (l1 rfl) (hE.t 0 rfl) one3 rfl rfl rfl)) (.n))))<| .p rfl (fun _ q _ => .buildO (offs := [(0,1),(1,1),(2,1),(3,1)]) (l1 rfl) (.cons (q.t 0 rfl) (by first | exact ⟨rfl,rfl⟩ | rfl) (.cons (q.t 1 rfl) (by first | exact ⟨rfl,rfl⟩ | rfl) (.cons (q.t 2 rfl) (by first | exact ⟨rfl,rfl⟩ | rfl) (.cons (q.t 3 rfl) (by first | exact ⟨rfl,rfl⟩ | rfl) (.nil))))) zero37 offs37 rfl)<| .p rfl (fun _ q _ => .frzAny (fun t ht => AStep.buildSlice (t := t) (out := ([(R36.mk a0.Jb l3_22 a0.Mt a0.Bo)] : List R36).flatMap encR36) (l1 rfl) ht (.cons (q.t 0 rfl) (by first | exact ⟨rfl,rfl⟩ | rfl) (.nil)) Tryz.underlying96 zero37 el37 (by decide) (by decide) rfl (still_all encR36_still _)) rfl encR36_len)<| .turn rfl rfl rfl rfl rfl (.new (fun E hE => .app (enc := encR36) (l1 rfl) (nm rfl) (hE.t 0 rfl) (Src.rd (hE.t 1 rfl) (flatMap_length encR36_len _) (one_all encR36_one _) (.inl rfl)) Tryz.underlying96 ⟨_,Tryz.underlying96,by intro k hk; cases hk⟩ el37 rfl encR36_len rfl rfl (by decide) hl2_23) rfl)<| .read rfl (.c (.put (fun E hE => .assign (l1 rfl) (hE.t 0 rfl))) (.n))<| .nil _) rfl rfl ?_
      exact endJ l2_23 h (VC.sub (.of rfl) (.of rfl))
     ·have h := iteF hc h
      refine AWP.skip ?_
      exact endJ x_18.2 h (VC.sub (.of rfl) (.of rfl))
   ·have h := iteF hc h
    refine AWP.exit ?_
    exact endJ x_18.2 h (VC.sub (.of rfl) (.of rfl))
theorem c50F (n : Nat) : ∀ (f : Nat) {β2 : Bool} {β3 : Bool} {β4 : Bool} (a0 : R36) (a1 : R40) (a4_b0_b : (List Int)) {r : (Bool × (List Int))},m50F n f a0 a1 a4_b0_b = some r → Spec Tryz.prog 50 [1,2,3,5] [.agg (gW false β2 a0.Jb a0.Dn a0.Mt a0.Bo),.agg (tW encK40 β3 β4 a1.Sp a1.Kd a1.Lf),.ptr 1 0,.ptr 2 0,.ptr 3 0,.ptr 5 0] [(1,⟨73,false,[.clo (.func 30) [] []]⟩),(2,⟨72,false,[.clo (.func 29) [] []]⟩),(3,⟨23,false,[.own 4 1 0 a4_b0_b.length]⟩),(4,⟨3,true,a4_b0_b.flatMap eW⟩),(5,⟨95,false,[.clo (.func 50) [] [.ptr 1 0,.ptr 2 0,.ptr 3 0,.ptr 5 0]]⟩)] (bW r.1) [(1,⟨73,false,[.clo (.func 30) [] []]⟩),(2,⟨72,false,[.clo (.func 29) [] []]⟩),(3,⟨23,false,[.own 4 1 0 r.2.length]⟩),(4,⟨3,true,r.2.flatMap eW⟩),(5,⟨95,false,[.clo (.func 50) [] [.ptr 1 0,.ptr 2 0,.ptr 3 0,.ptr 5 0]]⟩)] := by
 intro f
 induction f with
 | zero =>
  intro β2 β3 β4 a0 a1 a4_b0_b r h
  cases (show (none : Option (Bool × (List Int))) = some r from h)
 | succ f ih =>
 intro β2 β3 β4 a0 a1 a4_b0_b r h
 replace h : m50B n (m50F n f) a0 a1 a4_b0_b = some r := h
 generalize m50F n f = rc_0 at h ih
 refine Spec.of (fn := Tryz.f50) Tryz.func50 Tryz.ntmps50 rfl rfl (le1 rfl) (fun w0 Zs Zb T0 ι0 => ?_)
 unfold m50B at h
 refine AWP.seq ?_
 refine AWP.rg (.cons (.box (t := 6) (n := 4) (l1 rfl) (nm rfl) (.t rfl) (by first | exact ⟨rfl,rfl⟩ | rfl) rfl)<| .cons (.box (t := 7) (n := 3) (l1 rfl) (nm rfl) (.t rfl) (by first | exact ⟨rfl,rfl⟩ | rfl) rfl)<| .cons (.assign (l1 rfl) (.const _ _ _))<| .nil _ _ _) ?_
 refine AWP.vs ⟨[(2,.ptr 1 0),(3,.ptr 2 0),(4,.ptr 3 0),(5,.ptr 5 0),(6,.ptr 6 0),(7,.ptr 7 0)],[(7,⟨41,false,(tW encK40 β3 β4 a1.Sp a1.Kd a1.Lf)⟩),(6,⟨37,false,(gW false β2 a0.Jb a0.Dn a0.Mt a0.Bo)⟩),(1,⟨73,false,[.clo (.func 30) [] []]⟩),(2,⟨72,false,[.clo (.func 29) [] []]⟩),(3,⟨23,false,[.own 4 1 0 a4_b0_b.length]⟩),(4,⟨3,true,a4_b0_b.flatMap eW⟩),(5,⟨95,false,[.clo (.func 50) [] [.ptr 1 0,.ptr 2 0,.ptr 3 0,.ptr 5 0]]⟩)]⟩ rfl rfl ?_
 refine AWP.seq ?_
 refine AWP.seq ?_
 refine AWP.rg (.cons (.fieldP (l1 rfl) (.t rfl) fld41_1)<| .cons (.loadP (l1 rfl) (.t rfl) one39 rfl rfl rfl)<| .cons (.lenRd (l1 rfl) (.t rfl) Tryz.underlying39)<| .cons (.eql (l1 rfl) (.t rfl) (.const _ _ _))<| .nil _ _ _) ?_
 refine AWP.vs ⟨[(2,.ptr 1 0),(3,.ptr 2 0),(4,.ptr 3 0),(5,.ptr 5 0),(6,.ptr 6 0),(7,.ptr 7 0),(16,bW (decide ((a1.Kd.length : Int) = (0 : Int))))],[(7,⟨41,false,(tW encK40 β3 β4 a1.Sp a1.Kd a1.Lf)⟩),(6,⟨37,false,(gW false β2 a0.Jb a0.Dn a0.Mt a0.Bo)⟩),(1,⟨73,false,[.clo (.func 30) [] []]⟩),(2,⟨72,false,[.clo (.func 29) [] []]⟩),(3,⟨23,false,[.own 4 1 0 a4_b0_b.length]⟩),(4,⟨3,true,a4_b0_b.flatMap eW⟩),(5,⟨95,false,[.clo (.func 50) [] [.ptr 1 0,.ptr 2 0,.ptr 3 0,.ptr 5 0]]⟩)]⟩ rfl rfl ?_
 refine AWP.cond (.t rfl) (fun hc => ?_) (fun hc => ?_)
 ·have h := iteT hc h
  refine AWP.seq ?_
  obtain ⟨y_1,hy_1,h⟩ := bindS h
  refine AWP.rg (.cons (.loadP (l1 rfl) (.t rfl) one73 rfl rfl rfl)<| .cons (.loadPA (l1 rfl) (.t rfl) agg37 rfl rfl rfl rfl)<| .cons (.fieldP (l1 rfl) (.t rfl) fld41_2)<| .cons (.loadP (l1 rfl) (.t rfl) one23 rfl rfl rfl)<| .cons (.keep (bw := false) (AStep.callV (us' := []) (avs := [.agg [rW false ((R36.mk a0.Jb a0.Dn a0.Mt a0.Bo).Jb) e63,rW β2 ((R36.mk a0.Jb a0.Dn a0.Mt a0.Bo).Dn) eW,bW ((R36.mk a0.Jb a0.Dn a0.Mt a0.Bo).Mt),iW ((R36.mk a0.Jb a0.Dn a0.Mt a0.Bo).Bo)],rW β4 a1.Lf eW]) (cs' := []) (σ := sgT []) (bw := false) (l1 rfl) (.t rfl) (c30 (β1 := false) (β2 := β2) (β3 := β4) n (R36.mk a0.Jb a0.Dn a0.Mt a0.Bo) a1.Lf hy_1) (.nil) (.cons (.t rfl) (.ren rfl) (.cons (.t rfl) (.ren rfl) (.nil))) (.nil) (CallOk.mk' (.n) rfl) (fun _ h => by cases h)) (CallOk.mk' (.n) rfl) rfl rfl)<| .cons (.not (l1 rfl) (.t rfl))<| .cons (.assign (l1 rfl) (.t rfl))<| .nil _ _ _) ?_
  refine AWP.ret ?_
  obtain rfl := Option.some.inj h
  refine retJ (Res.vc (s' := ⟨[(8,bW (!y_1))],[(1,⟨73,false,[.clo (.func 30) [] []]⟩),(2,⟨72,false,[.clo (.func 29) [] []]⟩),(3,⟨23,false,[.own 4 1 0 a4_b0_b.length]⟩),(4,⟨3,true,a4_b0_b.flatMap eW⟩),(5,⟨95,false,[.clo (.func 50) [] [.ptr 1 0,.ptr 2 0,.ptr 3 0,.ptr 5 0]]⟩)]⟩) (VC.sub (.of rfl) (.of rfl)) ?_)
  refine Res.sub (H := [(1,⟨73,false,[.clo (.func 30) [] []]⟩),(2,⟨72,false,[.clo (.func 29) [] []]⟩),(3,⟨23,false,[.own 4 1 0 a4_b0_b.length]⟩),(4,⟨3,true,a4_b0_b.flatMap eW⟩),(5,⟨95,false,[.clo (.func 50) [] [.ptr 1 0,.ptr 2 0,.ptr 3 0,.ptr 5 0]]⟩)]) (.of rfl) ?_
  exact Res.of rfl (.cons (.tmp rfl) (.nil)) rfl rfl
 ·have h := iteF hc h
  refine AWP.skip ?_
  refine AWP.seq ?_
  obtain ⟨y_2,hy_2,h⟩ := bindS h
  refine AWP.rg (.cons (.loadP (l1 rfl) (.t rfl) one72 rfl rfl rfl)<| .cons (.loadPA (l1 rfl) (.t rfl) agg37 rfl rfl rfl rfl)<| .cons (.fieldP (l1 rfl) (.t rfl) fld41_0)<| .cons (.loadP (l1 rfl) (.t rfl) one3 rfl rfl rfl)<| .cons (.keep (bw := false) (AStep.callV (us' := []) (avs := [.agg [rW false ((R36.mk a0.Jb a0.Dn a0.Mt a0.Bo).Jb) e63,rW β2 ((R36.mk a0.Jb a0.Dn a0.Mt a0.Bo).Dn) eW,bW ((R36.mk a0.Jb a0.Dn a0.Mt a0.Bo).Mt),iW ((R36.mk a0.Jb a0.Dn a0.Mt a0.Bo).Bo)],iW a1.Sp]) (cs' := []) (σ := sgT []) (bw := false) (l1 rfl) (.t rfl) (c29 (β2 := β2) n (R36.mk a0.Jb a0.Dn a0.Mt a0.Bo) a1.Sp hy_2) (.nil) (.cons (.t rfl) (.ren rfl) (.cons (.t rfl) (.ren rfl) (.nil))) (.nil) (CallOk.mk' (.n) rfl) (fun _ h => by cases h)) (CallOk.mk' (.n) rfl) rfl rfl)<| .cons (.move (l1 rfl) (.t rfl))<| .cons (.extract (l1 rfl) (.t rfl) rfl)<| .cons (.extract (l1 rfl) (.t rfl) rfl)<| .cons (.assign (l1 rfl) (.t rfl))<| .cons (.assign (l1 rfl) (.t rfl))<| .nil _ _ _) ?_
  refine AWP.vs ⟨[(4,.ptr 3 0),(5,.ptr 5 0),(7,.ptr 7 0),(9,rW false y_2.1 encR36),(10,bW y_2.2)],[(7,⟨41,false,(tW encK40 β3 β4 a1.Sp a1.Kd a1.Lf)⟩),(1,⟨73,false,[.clo (.func 30) [] []]⟩),(2,⟨72,false,[.clo (.func 29) [] []]⟩),(3,⟨23,false,[.own 4 1 0 a4_b0_b.length]⟩),(4,⟨3,true,a4_b0_b.flatMap eW⟩),(5,⟨95,false,[.clo (.func 50) [] [.ptr 1 0,.ptr 2 0,.ptr 3 0,.ptr 5 0]]⟩)]⟩ rfl rfl ?_
  refine AWP.seq ?_
  refine AWP.seq ?_
  refine AWP.rg (.cons (.move (l1 rfl) (.t rfl))<| .cons (.not (l1 rfl) (.t rfl))<| .cons (.move (l1 rfl) (.t rfl))<| .guard (j := 2) (dj := 33) rfl (l1 rfl) rfl (l1 rfl) (fun hg => .move (l1 rfl) (.t rfl))<| .guard (j := 2) (dj := 33) rfl (l1 rfl) rfl (l1 rfl) (fun hg => .lenRd (l1 rfl) (.gd hg (.t rfl)) Tryz.underlying96)<| .guard (j := 2) (dj := 33) rfl (l1 rfl) rfl (l1 rfl) (fun hg => .fieldP (l1 rfl) (.t rfl) fld41_1)<| .guard (j := 2) (dj := 33) rfl (l1 rfl) rfl (l1 rfl) (fun hg => .loadP (l1 rfl) (.gd hg (.t rfl)) one39 rfl rfl rfl)<| .guard (j := 2) (dj := 33) rfl (l1 rfl) rfl (l1 rfl) (fun hg => .lenRd (l1 rfl) (.gd hg (.t rfl)) Tryz.underlying39)<| .guard (j := 2) (dj := 33) rfl (l1 rfl) rfl (l1 rfl) (fun hg => .neq (l1 rfl) (.gd hg (.t rfl)) (.gd hg (.t rfl)))<| .cons (.pickOr (l1 rfl) (.t rfl) (.const _ _ _) (.t rfl))<| .nil _ _ _) ?_
  refine AWP.vs ⟨[(4,.ptr 3 0),(5,.ptr 5 0),(7,.ptr 7 0),(9,rW false y_2.1 encR36),(40,bW ((!y_2.2) || (!decide ((y_2.1.length : Int) = (a1.Kd.length : Int)))))],[(7,⟨41,false,(tW encK40 β3 β4 a1.Sp a1.Kd a1.Lf)⟩),(1,⟨73,false,[.clo (.func 30) [] []]⟩),(2,⟨72,false,[.clo (.func 29) [] []]⟩),(3,⟨23,false,[.own 4 1 0 a4_b0_b.length]⟩),(4,⟨3,true,a4_b0_b.flatMap eW⟩),(5,⟨95,false,[.clo (.func 50) [] [.ptr 1 0,.ptr 2 0,.ptr 3 0,.ptr 5 0]]⟩)]⟩ rfl rfl ?_
  refine AWP.cond (.t rfl) (fun hc => ?_) (fun hc => ?_)
  ·have h := iteT hc h
   refine AWP.seq ?_
   refine AWP.rg (.cons (.assign (l1 rfl) (.const _ _ _))<| .nil _ _ _) ?_
   refine AWP.ret ?_
   obtain rfl := Option.some.inj h
   refine retJ (Res.vc (s' := ⟨[(8,bW true)],[(1,⟨73,false,[.clo (.func 30) [] []]⟩),(2,⟨72,false,[.clo (.func 29) [] []]⟩),(3,⟨23,false,[.own 4 1 0 a4_b0_b.length]⟩),(4,⟨3,true,a4_b0_b.flatMap eW⟩),(5,⟨95,false,[.clo (.func 50) [] [.ptr 1 0,.ptr 2 0,.ptr 3 0,.ptr 5 0]]⟩)]⟩) (VC.sub (.of rfl) (.of rfl)) ?_)
   refine Res.sub (H := [(1,⟨73,false,[.clo (.func 30) [] []]⟩),(2,⟨72,false,[.clo (.func 29) [] []]⟩),(3,⟨23,false,[.own 4 1 0 a4_b0_b.length]⟩),(4,⟨3,true,a4_b0_b.flatMap eW⟩),(5,⟨95,false,[.clo (.func 50) [] [.ptr 1 0,.ptr 2 0,.ptr 3 0,.ptr 5 0]]⟩)]) (.of rfl) ?_
   exact Res.of rfl (.cons (.tmp rfl) (.nil)) rfl rfl
  ·have h := iteF hc h
   refine AWP.skip ?_
   refine AWP.seq ?_
   refine AWP.seq ?_
   refine AWP.rg (.cons (.fieldP (l1 rfl) (.t rfl) fld41_1)<| .cons (.loadP (l1 rfl) (.t rfl) one39 rfl rfl rfl)<| .cons (.lenRd (l1 rfl) (.t rfl) Tryz.underlying39)<| .cons (.move (l1 rfl) (.const _ _ _))<| .nil _ _ _) ?_
   refine AWP.vs ⟨[(4,.ptr 3 0),(5,.ptr 5 0),(9,rW false y_2.1 encR36),(42,rW β3 a1.Kd encK40),(43,iW (a1.Kd.length : Int)),(44,iW (0 : Int))],[(1,⟨73,false,[.clo (.func 30) [] []]⟩),(2,⟨72,false,[.clo (.func 29) [] []]⟩),(3,⟨23,false,[.own 4 1 0 a4_b0_b.length]⟩),(4,⟨3,true,a4_b0_b.flatMap eW⟩),(5,⟨95,false,[.clo (.func 50) [] [.ptr 1 0,.ptr 2 0,.ptr 3 0,.ptr 5 0]]⟩)]⟩ rfl rfl ?_
   refine AWP.joinB' (S := fun p_25 : (List Int) => ⟨[],[(1,⟨73,false,[.clo (.func 30) [] []]⟩),(2,⟨72,false,[.clo (.func 29) [] []]⟩),(3,⟨23,false,[.own 4 1 0 p_25.length]⟩),(4,⟨3,true,p_25.flatMap eW⟩),(5,⟨95,false,[.clo (.func 50) [] [.ptr 1 0,.ptr 2 0,.ptr 3 0,.ptr 5 0]]⟩)]⟩) h (fun p_25 h => ?_) (fun k_26 h => ?_)
   ·refine AWP.seq ?_
    refine AWP.rg (.cons (.assign (l1 rfl) (.const _ _ _))<| .nil _ _ _) ?_
    refine AWP.ret ?_
    obtain rfl := Option.some.inj h
    refine retJ (Res.vc (s' := ⟨[(8,bW false)],[(1,⟨73,false,[.clo (.func 30) [] []]⟩),(2,⟨72,false,[.clo (.func 29) [] []]⟩),(3,⟨23,false,[.own 4 1 0 p_25.length]⟩),(4,⟨3,true,p_25.flatMap eW⟩),(5,⟨95,false,[.clo (.func 50) [] [.ptr 1 0,.ptr 2 0,.ptr 3 0,.ptr 5 0]]⟩)]⟩) (VC.sub (.of rfl) (.of rfl)) ?_)
    refine Res.sub (H := [(1,⟨73,false,[.clo (.func 30) [] []]⟩),(2,⟨72,false,[.clo (.func 29) [] []]⟩),(3,⟨23,false,[.own 4 1 0 p_25.length]⟩),(4,⟨3,true,p_25.flatMap eW⟩),(5,⟨95,false,[.clo (.func 50) [] [.ptr 1 0,.ptr 2 0,.ptr 3 0,.ptr 5 0]]⟩)]) (.of rfl) ?_
    exact Res.of rfl (.cons (.tmp rfl) (.nil)) rfl rfl
   ·refine AWP.vs ⟨[(4,.ptr 3 0),(5,.ptr 5 0),(9,rW false y_2.1 encR36),(42,rW β3 a1.Kd encK40),(43,iW (a1.Kd.length : Int)),(44,iW (0 : Int))],[(1,⟨73,false,[.clo (.func 30) [] []]⟩),(2,⟨72,false,[.clo (.func 29) [] []]⟩),(3,⟨23,false,[.own 4 1 0 a4_b0_b.length]⟩),(4,⟨3,true,a4_b0_b.flatMap eW⟩),(5,⟨95,false,[.clo (.func 50) [] [.ptr 1 0,.ptr 2 0,.ptr 3 0,.ptr 5 0]]⟩)]⟩ rfl rfl ?_
    refine AWP.loopM (S := fun x_17 : Int × (List Int) => ⟨[(4,.ptr 3 0),(5,.ptr 5 0),(9,rW false y_2.1 encR36),(42,rW β3 a1.Kd encK40),(43,iW (a1.Kd.length : Int)),(44,iW x_17.1)],[(1,⟨73,false,[.clo (.func 30) [] []]⟩),(2,⟨72,false,[.clo (.func 29) [] []]⟩),(3,⟨23,false,[.own 4 1 0 x_17.2.length]⟩),(4,⟨3,true,x_17.2.flatMap eW⟩),(5,⟨95,false,[.clo (.func 50) [] [.ptr 1 0,.ptr 2 0,.ptr 3 0,.ptr 5 0]]⟩)]⟩) (x := ((0 : Int),a4_b0_b)) (fun nx_18 x_17 h => ?_) h
    unfold m50_L1 at h
    refine AWP.seq ?_
    refine AWP.rg (.cons (.lss (l1 rfl) (.t rfl) (.t rfl))<| .nil _ _ _) ?_
    refine AWP.vs ⟨[(4,.ptr 3 0),(5,.ptr 5 0),(9,rW false y_2.1 encR36),(42,rW β3 a1.Kd encK40),(43,iW (a1.Kd.length : Int)),(44,iW x_17.1),(45,bW (decide (x_17.1 < (a1.Kd.length : Int))))],[(1,⟨73,false,[.clo (.func 30) [] []]⟩),(2,⟨72,false,[.clo (.func 29) [] []]⟩),(3,⟨23,false,[.own 4 1 0 x_17.2.length]⟩),(4,⟨3,true,x_17.2.flatMap eW⟩),(5,⟨95,false,[.clo (.func 50) [] [.ptr 1 0,.ptr 2 0,.ptr 3 0,.ptr 5 0]]⟩)]⟩ rfl rfl ?_
    refine AWP.seq ?_
    refine AWP.cond (.t rfl) (fun hc => ?_) (fun hc => ?_)
    ·have h := iteT hc h
     refine AWP.skip ?_
     refine AWP.seq ?_
     refine AWP.block ?_
     refine AWP.seq ?_
     obtain ⟨y_19,hy_19,h⟩ := bindS h
     refine AWP.rg (.cons (.move (l1 rfl) (.t rfl))<| .cons (.indexRdC (enc := encK40) (l1 rfl) (.t rfl) (.t rfl) Tryz.underlying39 sz41 encK40_len rfl hy_19 (encK40_out _))<| .cons (.loadRA (out := (tW encK40 β3 β3 y_19.out.Sp y_19.out.Kd y_19.out.Lf)) (l1 rfl) (.t rfl) agg41 (le1 rfl) rfl)<| .cons (.alloc (t := 8) (k := ⟨41,false,[iW (0 : Int),.sc (.slice none 0 0),.sc (.slice none 0 0)]⟩) (l1 rfl) (nm rfl) zero41 rfl rfl)<| .cons (.assign (l1 rfl) (.t rfl))<| .cons (.storePA (.t rfl) (.t rfl) sz41 rfl rfl (le1 rfl) (one_lit rfl) (by intro h; cases h) rfl)<| .nil _ _ _) ?_
     refine AWP.vs ⟨[(4,.ptr 3 0),(5,.ptr 5 0),(9,rW false y_2.1 encR36),(42,rW β3 a1.Kd encK40),(43,iW (a1.Kd.length : Int)),(44,iW x_17.1),(12,.ptr 8 0),(11,iW x_17.1)],[(8,⟨41,false,(tW encK40 β3 β3 y_19.out.Sp y_19.out.Kd y_19.out.Lf)⟩),(1,⟨73,false,[.clo (.func 30) [] []]⟩),(2,⟨72,false,[.clo (.func 29) [] []]⟩),(3,⟨23,false,[.own 4 1 0 x_17.2.length]⟩),(4,⟨3,true,x_17.2.flatMap eW⟩),(5,⟨95,false,[.clo (.func 50) [] [.ptr 1 0,.ptr 2 0,.ptr 3 0,.ptr 5 0]]⟩)]⟩ rfl rfl ?_
     refine AWP.seq ?_
     obtain ⟨l4_20,hl4_20,h⟩ := bindS h
     refine AWP.rg (.cons (.loadP (l1 rfl) (.t rfl) one23 rfl rfl rfl)<| .cons (.move (l1 rfl) (.t rfl))<| .cons (.buildSlice (t := 9) (out := ([x_17.1] : List Int).flatMap eW) (l1 rfl) (nm rfl) (.cons (.t rfl) (by first | exact ⟨rfl,rfl⟩ | rfl) (.nil)) Tryz.underlying23 zero3 el3 (by decide) (by decide) rfl (still_all (encI_still .i64) _))<| .cons (.app (enc := eW) (l1 rfl) (nm rfl) (.t rfl) (Src.own (.t rfl) rfl (lendAll (encI_len .i64) _) (flatMap_length (encI_len .i64) _) (one_all (encI_one .i64) _) (.inl rfl)) Tryz.underlying23 ⟨_,Tryz.underlying23,by intro k hk; cases hk⟩ el3 rfl (encI_len .i64) rfl rfl (by decide) hl4_20)<| .cons (.storeP (.t rfl) (.t rfl) sz23 rfl (l1 rfl) rfl (by intro h; cases h) rfl)<| .nil _ _ _) ?_
     refine AWP.vs ⟨[(4,.ptr 3 0),(5,.ptr 5 0),(9,rW false y_2.1 encR36),(42,rW β3 a1.Kd encK40),(43,iW (a1.Kd.length : Int)),(44,iW x_17.1),(12,.ptr 8 0),(11,iW x_17.1)],[(4,⟨3,true,l4_20.flatMap eW⟩),(8,⟨41,false,(tW encK40 β3 β3 y_19.out.Sp y_19.out.Kd y_19.out.Lf)⟩),(1,⟨73,false,[.clo (.func 30) [] []]⟩),(2,⟨72,false,[.clo (.func 29) [] []]⟩),(3,⟨23,false,[.own 4 1 0 l4_20.length]⟩),(5,⟨95,false,[.clo (.func 50) [] [.ptr 1 0,.ptr 2 0,.ptr 3 0,.ptr 5 0]]⟩)]⟩ rfl rfl ?_
     refine AWP.seq ?_
     refine AWP.seq ?_
     obtain ⟨y_21,hy_21,h⟩ := bindS h
     obtain ⟨y_22,hy_22,h⟩ := bindS h
     refine AWP.dw mixed [(4,.ptr 3 0),(5,.ptr 5 0),(9,rW false y_2.1 encR36),(11,iW x_17.1),(12,.ptr 8 0),(42,rW β3 a1.Kd encK40),(43,iW (a1.Kd.length : Int)),(44,iW x_17.1)] [] [dO [1] 53 (.clo (.func 50) [] [.ptr 1 0,.ptr 2 0,.ptr 3 0,.ptr 5 0]),⟨[2],0,1,some (54,rW false y_2.1 encR36),[]⟩,⟨[3],0,1,some (55,iW x_17.1),[]⟩,⟨[9,10],0,1,some (56,.rptr false (gW false false y_21.Jb y_21.Dn y_21.Mt y_21.Bo)),[]⟩,⟨[11],0,1,some (57,.agg (gW false false y_21.Jb y_21.Dn y_21.Mt y_21.Bo)),[]⟩,dO [4] 58 (.agg (tW encK40 β3 β3 y_19.out.Sp y_19.out.Kd y_19.out.Lf)),⟨[8,12,13],0,0,some (59,bW y_22.1),[4,4]⟩] [6] [[(4,⟨3,true,l4_20.flatMap eW⟩),(8,⟨41,false,(tW encK40 β3 β3 y_19.out.Sp y_19.out.Kd y_19.out.Lf)⟩),(1,⟨73,false,[.clo (.func 30) [] []]⟩),(2,⟨72,false,[.clo (.func 29) [] []]⟩),(3,⟨23,false,[.own 4 1 0 l4_20.length]⟩),(5,⟨95,false,[.clo (.func 50) [] [.ptr 1 0,.ptr 2 0,.ptr 3 0,.ptr 5 0]]⟩)],[(1,⟨73,false,[.clo (.func 30) [] []]⟩),(2,⟨72,false,[.clo (.func 29) [] []]⟩),(3,⟨23,false,[.own 4 1 0 y_22.2.length]⟩),(4,⟨3,true,y_22.2.flatMap eW⟩),(5,⟨95,false,[.clo (.func 50) [] [.ptr 1 0,.ptr 2 0,.ptr 3 0,.ptr 5 0]]⟩),(8,⟨41,false,(tW encK40 β3 β3 y_19.out.Sp y_19.out.Kd y_19.out.Lf)⟩)]] [[],[],[],[1,3],[1,4],[],[0,6]] [0,1,2,5,6,7,14] rfl rfl (by kernel_rfl) rfl (.read rfl (.c (.put (fun E hE => .loadP (l1 rfl) (hE.t 0 rfl) one95 rfl rfl rfl)) (.n))<| .p rfl (fun _ q _ => .move (l1 rfl) (q.t 0 rfl))<| .p rfl (fun _ q _ => .move (l1 rfl) (q.t 0 rfl))<| .p rfl (fun _ q _ => .indexRd (enc := encR36) (l1 rfl) (q.t 0 rfl) (q.t 1 rfl) Tryz.underlying96 sz37 encR36_len rfl hy_21)<| .p rfl (fun _ q _ => .loadRA (out := (gW false false y_21.Jb y_21.Dn y_21.Mt y_21.Bo)) (l1 rfl) (q.t 0 rfl) agg37 (Nat.le_of_eq (Eq.symm (encR36_len _))) rfl)<| .read rfl (.c (.put (fun E hE => .loadPA (l1 rfl) (hE.t 0 rfl) agg41 rfl rfl rfl rfl)) (.n))<| .turn rfl rfl rfl rfl rfl (.called (fun E hE => AStep.callV (us' := []) (avs := [.agg [rW false ((R36.mk y_21.Jb y_21.Dn y_21.Mt y_21.Bo).Jb) e63,rW false ((R36.mk y_21.Jb y_21.Dn y_21.Mt y_21.Bo).Dn) eW,bW ((R36.mk y_21.Jb y_21.Dn y_21.Mt y_21.Bo).Mt),iW ((R36.mk y_21.Jb y_21.Dn y_21.Mt y_21.Bo).Bo)],.agg [iW ((R40.mk y_19.out.Sp y_19.out.Kd y_19.out.Lf).Sp),rW β3 ((R40.mk y_19.out.Sp y_19.out.Kd y_19.out.Lf).Kd) encK40,rW β3 ((R40.mk y_19.out.Sp y_19.out.Kd y_19.out.Lf).Lf) eW]]) (cs' := [.ptr 1 0,.ptr 2 0,.ptr 3 0,.ptr 5 0]) (σ := sgT [(1,1),(2,2),(3,3),(4,4),(5,5)]) (bw := false) (l1 rfl) (hE.t 0 rfl) (ih (β2 := false) (β3 := β3) (β4 := β3) (R36.mk y_21.Jb y_21.Dn y_21.Mt y_21.Bo) (R40.mk y_19.out.Sp y_19.out.Kd y_19.out.Lf) l4_20 hy_22) (.nil) (.cons (hE.t 1 rfl) (.ren rfl) (.cons (hE.t 2 rfl) (.ren rfl) (.nil))) (.cons (.ren rfl) (.cons (.ren rfl) (.cons (.ren rfl) (.cons (.ren rfl) (.nil))))) (CallOk.mk' (.c rfl (.c rfl (.c rfl (.c rfl (.c rfl (.n)))))) rfl) (fun _ h => by cases h)) rfl rfl rfl)<| .nil _) rfl rfl ?_
     refine AWP.vs ⟨[(4,.ptr 3 0),(5,.ptr 5 0),(9,rW false y_2.1 encR36),(42,rW β3 a1.Kd encK40),(43,iW (a1.Kd.length : Int)),(44,iW x_17.1),(59,bW y_22.1)],[(1,⟨73,false,[.clo (.func 30) [] []]⟩),(2,⟨72,false,[.clo (.func 29) [] []]⟩),(3,⟨23,false,[.own 4 1 0 y_22.2.length]⟩),(4,⟨3,true,y_22.2.flatMap eW⟩),(5,⟨95,false,[.clo (.func 50) [] [.ptr 1 0,.ptr 2 0,.ptr 3 0,.ptr 5 0]]⟩)]⟩ rfl rfl ?_
     refine AWP.cond (.t rfl) (fun hc => ?_) (fun hc => ?_)
     ·have h := iteT hc h
      refine AWP.seq ?_
      refine AWP.rg (.cons (.assign (l1 rfl) (.const _ _ _))<| .nil _ _ _) ?_
      refine AWP.ret ?_
      obtain rfl := Option.some.inj h
      refine retJ (Res.vc (s' := ⟨[(8,bW true)],[(1,⟨73,false,[.clo (.func 30) [] []]⟩),(2,⟨72,false,[.clo (.func 29) [] []]⟩),(3,⟨23,false,[.own 4 1 0 y_22.2.length]⟩),(4,⟨3,true,y_22.2.flatMap eW⟩),(5,⟨95,false,[.clo (.func 50) [] [.ptr 1 0,.ptr 2 0,.ptr 3 0,.ptr 5 0]]⟩)]⟩) (VC.sub (.of rfl) (.of rfl)) ?_)
      refine Res.sub (H := [(1,⟨73,false,[.clo (.func 30) [] []]⟩),(2,⟨72,false,[.clo (.func 29) [] []]⟩),(3,⟨23,false,[.own 4 1 0 y_22.2.length]⟩),(4,⟨3,true,y_22.2.flatMap eW⟩),(5,⟨95,false,[.clo (.func 50) [] [.ptr 1 0,.ptr 2 0,.ptr 3 0,.ptr 5 0]]⟩)]) (.of rfl) ?_
      exact Res.of rfl (.cons (.tmp rfl) (.nil)) rfl rfl
     ·have h := iteF hc h
      refine AWP.skip ?_
      obtain ⟨l4_23,hl4_23,h⟩ := bindS h
      refine AWP.rg (.cons (.loadP (l1 rfl) (.t rfl) one23 rfl rfl rfl)<| .cons (.loadP (l1 rfl) (.t rfl) one23 rfl rfl rfl)<| .cons (.lenOwn (l1 rfl) (.t rfl) Tryz.underlying23)<| .cons (.sub (l1 rfl) (.t rfl) (.const _ _ _))<| .cons (.slOwn (enc := eW) (gh := 0) (gh' := 0) (l1 rfl) (.t rfl) rfl Tryz.underlying23 sz3 (encI_len .i64) rfl (.none _ _ _) (.some (.t rfl)) hl4_23 rfl)<| .cons (.storeP (.t rfl) (.t rfl) sz23 rfl (l1 rfl) rfl (by intro h; cases h) rfl)<| .nil _ _ _) ?_
      refine AWP.vs ⟨[(4,.ptr 3 0),(5,.ptr 5 0),(9,rW false y_2.1 encR36),(42,rW β3 a1.Kd encK40),(43,iW (a1.Kd.length : Int)),(44,iW x_17.1)],[(1,⟨73,false,[.clo (.func 30) [] []]⟩),(2,⟨72,false,[.clo (.func 29) [] []]⟩),(3,⟨23,false,[.own 4 1 0 l4_23.length]⟩),(4,⟨3,true,l4_23.flatMap eW⟩),(5,⟨95,false,[.clo (.func 50) [] [.ptr 1 0,.ptr 2 0,.ptr 3 0,.ptr 5 0]]⟩)]⟩ rfl rfl ?_
      obtain ⟨t44_24,ht44_24,h⟩ := letS h
      refine AWP.rg (.cons (.add (l1 rfl) (.t rfl) (.const _ _ _))<| .cons (.move (l1 rfl) (.t rfl))<| .nil _ _ _) ?_
      exact endJ (t44_24,l4_23) h (by subst ht44_24; exact VC.sub (.of rfl) (.of rfl))
    ·have h := iteF hc h
     refine AWP.exit ?_
     exact endJ x_17.2 h (VC.sub (.n _) (.of rfl))
theorem c50 (n : Nat) {β2 : Bool} {β3 : Bool} {β4 : Bool} (a0 : R36) (a1 : R40) (a4_b0_b : (List Int)) {r : (Bool × (List Int))} (h : m50 n a0 a1 a4_b0_b = some r) : Spec Tryz.prog 50 [1,2,3,5] [.agg (gW false β2 a0.Jb a0.Dn a0.Mt a0.Bo),.agg (tW encK40 β3 β4 a1.Sp a1.Kd a1.Lf),.ptr 1 0,.ptr 2 0,.ptr 3 0,.ptr 5 0] [(1,⟨73,false,[.clo (.func 30) [] []]⟩),(2,⟨72,false,[.clo (.func 29) [] []]⟩),(3,⟨23,false,[.own 4 1 0 a4_b0_b.length]⟩),(4,⟨3,true,a4_b0_b.flatMap eW⟩),(5,⟨95,false,[.clo (.func 50) [] [.ptr 1 0,.ptr 2 0,.ptr 3 0,.ptr 5 0]]⟩)] (bW r.1) [(1,⟨73,false,[.clo (.func 30) [] []]⟩),(2,⟨72,false,[.clo (.func 29) [] []]⟩),(3,⟨23,false,[.own 4 1 0 r.2.length]⟩),(4,⟨3,true,r.2.flatMap eW⟩),(5,⟨95,false,[.clo (.func 50) [] [.ptr 1 0,.ptr 2 0,.ptr 3 0,.ptr 5 0]]⟩)] := c50F n n a0 a1 a4_b0_b h
theorem c28 {β2 : Bool} {β3 : Bool} {β4 : Bool} (n : Nat) (a0 : R36) (a1 : R40) {r : ((List Int) × Int)} (h : m28 n a0 a1 = some r) : Spec Tryz.prog 28 [] [.agg (gW false β2 a0.Jb a0.Dn a0.Mt a0.Bo),.agg (tW encK40 β3 β4 a1.Sp a1.Kd a1.Lf),.clo (.func 29) [] [],.clo (.func 30) [] []] [] (.tup [rW false r.1 eW,iW r.2]) [] := by
 refine Spec.of (fn := Tryz.f28) Tryz.func28 Tryz.ntmps28 rfl rfl (le1 rfl) (fun w0 Zs Zb T0 ι0 => ?_)
 unfold m28 at h
 refine AWP.seq ?_
 refine AWP.rg (.cons (.box (t := 1) (n := 4) (l1 rfl) (nm rfl) (.t rfl) (by first | exact ⟨rfl,rfl⟩ | rfl) rfl)<| .cons (.box (t := 2) (n := 3) (l1 rfl) (nm rfl) (.t rfl) (by first | exact ⟨rfl,rfl⟩ | rfl) rfl)<| .cons (.box (t := 3) (n := 1) (l1 rfl) (nm rfl) (.t rfl) (by first | exact ⟨rfl,rfl⟩ | rfl) rfl)<| .cons (.box (t := 4) (n := 1) (l1 rfl) (nm rfl) (.t rfl) (by first | exact ⟨rfl,rfl⟩ | rfl) rfl)<| .cons (.alloc (t := 5) (k := ⟨23,false,[.sc (.slice none 0 0)]⟩) (l1 rfl) (nm rfl) zero23 rfl rfl)<| .cons (.assign (l1 rfl) (.const _ _ _))<| .nil _ _ _) ?_
 refine AWP.vs ⟨[(4,.ptr 1 0),(5,.ptr 2 0),(6,.ptr 3 0),(7,.ptr 4 0),(8,.ptr 5 0)],[(5,⟨23,false,[.sc (.slice none 0 0)]⟩),(4,⟨73,false,[.clo (.func 30) [] []]⟩),(3,⟨72,false,[.clo (.func 29) [] []]⟩),(2,⟨41,false,(tW encK40 β3 β4 a1.Sp a1.Kd a1.Lf)⟩),(1,⟨37,false,(gW false β2 a0.Jb a0.Dn a0.Mt a0.Bo)⟩)]⟩ rfl rfl ?_
 refine AWP.seq ?_
 refine AWP.seq ?_
 obtain ⟨y_1,hy_1,h⟩ := bindS h
 refine AWP.rg (.cons (.loadPA (l1 rfl) (.t rfl) agg41 rfl rfl rfl rfl)<| .cons (.call0 (bw := false) (l1 rfl) (c22 (β1 := β3) (β2 := β4) n (R40.mk a1.Sp a1.Kd a1.Lf) hy_1) (.cons (.t rfl) (.ren rfl) (.nil)) rfl)<| .cons (.not (l1 rfl) (.t rfl))<| .nil _ _ _) ?_
 refine AWP.vs ⟨[(4,.ptr 1 0),(5,.ptr 2 0),(6,.ptr 3 0),(7,.ptr 4 0),(8,.ptr 5 0),(13,bW (!y_1))],[(5,⟨23,false,[.sc (.slice none 0 0)]⟩),(4,⟨73,false,[.clo (.func 30) [] []]⟩),(3,⟨72,false,[.clo (.func 29) [] []]⟩),(2,⟨41,false,(tW encK40 β3 β4 a1.Sp a1.Kd a1.Lf)⟩),(1,⟨37,false,(gW false β2 a0.Jb a0.Dn a0.Mt a0.Bo)⟩)]⟩ rfl rfl ?_
 refine AWP.cond (.t rfl) (fun hc => ?_) (fun hc => ?_)
 ·have h := iteT hc h
  refine AWP.seq ?_
  refine AWP.rg (.cons (.storeP (.t rfl) (.const _ _ _) sz23 rfl (l1 rfl) rfl (by intro h; cases h) rfl)<| .cons (.assign (l1 rfl) (.const _ _ _))<| .nil _ _ _) ?_
  refine AWP.ret ?_
  obtain rfl := Option.some.inj h
  refine retJ (Res.vc (s' := ⟨[(8,.ptr 5 0),(9,iW (1 : Int))],[(5,⟨23,false,[rW false ([] : List Int) eW]⟩)]⟩) (VC.trans (VC.cell (t := 5) (i := 0) (v' := rW false ([] : List Int) eW) rfl rfl rfl (fun _ _ _ _ h => nil_rd h)) (VC.sub (.of rfl) (.of rfl))) ?_)
  refine Res.drop (H := [(5,⟨23,false,[rW false ([] : List Int) eW]⟩)]) rfl ?_
  exact Res.of rfl (.cons (.cell1 rfl one23 rfl rfl rfl) (.cons (.tmp rfl) (.nil))) rfl rfl
 ·have h := iteF hc h
  refine AWP.skip ?_
  refine AWP.seq ?_
  refine AWP.rg (.cons (.alloc (t := 6) (k := ⟨95,false,[.sc (.nilFunc)]⟩) (l1 rfl) (nm rfl) zero95 rfl rfl)<| .nil _ _ _) ?_
  refine AWP.vs ⟨[(4,.ptr 1 0),(5,.ptr 2 0),(6,.ptr 3 0),(7,.ptr 4 0),(8,.ptr 5 0),(10,.ptr 6 0)],[(6,⟨95,false,[.sc (.nilFunc)]⟩),(5,⟨23,false,[.sc (.slice none 0 0)]⟩),(4,⟨73,false,[.clo (.func 30) [] []]⟩),(3,⟨72,false,[.clo (.func 29) [] []]⟩),(2,⟨41,false,(tW encK40 β3 β4 a1.Sp a1.Kd a1.Lf)⟩),(1,⟨37,false,(gW false β2 a0.Jb a0.Dn a0.Mt a0.Bo)⟩)]⟩ rfl rfl ?_
  refine AWP.seq ?_
  refine AWP.rg (.cons (.makeFunc (l1 rfl) (.nil) (.cons (.t rfl) (.cons (.t rfl) (.cons (.t rfl) (.cons (.t rfl) (.nil))))))<| .cons (.storeP (.t rfl) (.t rfl) sz95 rfl (l1 rfl) rfl (by intro h; cases h) rfl)<| .nil _ _ _) ?_
  refine AWP.vs ⟨[(4,.ptr 1 0),(5,.ptr 2 0),(8,.ptr 5 0),(10,.ptr 6 0)],[(6,⟨95,false,[.clo (.func 50) [] [.ptr 4 0,.ptr 3 0,.ptr 5 0,.ptr 6 0]]⟩),(5,⟨23,false,[.sc (.slice none 0 0)]⟩),(4,⟨73,false,[.clo (.func 30) [] []]⟩),(3,⟨72,false,[.clo (.func 29) [] []]⟩),(2,⟨41,false,(tW encK40 β3 β4 a1.Sp a1.Kd a1.Lf)⟩),(1,⟨37,false,(gW false β2 a0.Jb a0.Dn a0.Mt a0.Bo)⟩)]⟩ rfl rfl ?_
  refine AWP.seq ?_
  refine AWP.seq ?_
  obtain ⟨y_2,hy_2,h⟩ := bindS h
  refine AWP.rg (.cons (.loadP (l1 rfl) (.t rfl) one95 rfl rfl rfl)<| .cons (.loadPA (l1 rfl) (.t rfl) agg37 rfl rfl rfl rfl)<| .cons (.loadPA (l1 rfl) (.t rfl) agg41 rfl rfl rfl rfl)<| .vc (VC.trans (VC.newTag (t := 7) (E := 3) (nm rfl)) (VC.cell (t := 5) (i := 0) (v' := .own 7 1 0 0) rfl rfl rfl (fun _ _ _ _ h => nil_own h)))<| .cons (.callV (us' := []) (avs := [.agg [rW false ((R36.mk a0.Jb a0.Dn a0.Mt a0.Bo).Jb) e63,rW β2 ((R36.mk a0.Jb a0.Dn a0.Mt a0.Bo).Dn) eW,bW ((R36.mk a0.Jb a0.Dn a0.Mt a0.Bo).Mt),iW ((R36.mk a0.Jb a0.Dn a0.Mt a0.Bo).Bo)],.agg [iW ((R40.mk a1.Sp a1.Kd a1.Lf).Sp),rW β3 ((R40.mk a1.Sp a1.Kd a1.Lf).Kd) encK40,rW β4 ((R40.mk a1.Sp a1.Kd a1.Lf).Lf) eW]]) (cs' := [.ptr 1 0,.ptr 2 0,.ptr 3 0,.ptr 5 0]) (σ := sgT [(1,4),(2,3),(3,5),(4,7),(5,6)]) (bw := false) (l1 rfl) (.t rfl) (c50 (β2 := β2) (β3 := β3) (β4 := β4) n (R36.mk a0.Jb a0.Dn a0.Mt a0.Bo) (R40.mk a1.Sp a1.Kd a1.Lf) ([] : List Int) hy_2) (.nil) (.cons (.t rfl) (.ren rfl) (.cons (.t rfl) (.ren rfl) (.nil))) (.cons (.ren rfl) (.cons (.ren rfl) (.cons (.ren rfl) (.cons (.ren rfl) (.nil))))) (CallOk.mk' (.c rfl (.c rfl (.c rfl (.c rfl (.c rfl (.n)))))) rfl) (fun _ h => by cases h))<| .nil _ _ _) ?_
  refine AWP.vs ⟨[(8,.ptr 5 0),(18,bW y_2.1)],[(5,⟨23,false,[.own 7 1 0 y_2.2.length]⟩),(7,⟨3,true,y_2.2.flatMap eW⟩)]⟩ rfl rfl ?_
  refine AWP.cond (.t rfl) (fun hc => ?_) (fun hc => ?_)
  ·have h := iteT hc h
   refine AWP.seq ?_
   refine AWP.rg (.cons (.loadP (l1 rfl) (.t rfl) one23 rfl rfl rfl)<| .cons (.storeP (.t rfl) (.t rfl) sz23 rfl (l1 rfl) rfl (by intro h; cases h) rfl)<| .cons (.assign (l1 rfl) (.const _ _ _))<| .nil _ _ _) ?_
   refine AWP.ret ?_
   obtain rfl := Option.some.inj h
   refine retJ (Res.vc (s' := ⟨[(8,.ptr 5 0),(9,iW (21 : Int))],[(5,⟨23,false,[rW false y_2.2 eW]⟩)]⟩) (VC.trans (VC.trans (VC.freeze (t := 7) rfl) (VC.cellEq (t := 5) (i := 0) (v' := rW false y_2.2 eW) rfl rfl rfl (frz_rd (enc := eW) (encI_len .i64) y_2.2 false))) (VC.sub (.of rfl) (.of rfl))) ?_)
   refine Res.drop (H := [(5,⟨23,false,[rW false y_2.2 eW]⟩)]) rfl ?_
   exact Res.of rfl (.cons (.cell1 rfl one23 rfl rfl rfl) (.cons (.tmp rfl) (.nil))) rfl rfl
  ·have h := iteF hc h
   refine AWP.skip ?_
   refine AWP.seq ?_
   refine AWP.rg (.cons (.storeP (.t rfl) (.const _ _ _) sz23 rfl (l1 rfl) rfl (by intro h; cases h) rfl)<| .cons (.assign (l1 rfl) (.const _ _ _))<| .nil _ _ _) ?_
   refine AWP.ret ?_
   obtain rfl := Option.some.inj h
   refine retJ (Res.vc (s' := ⟨[(8,.ptr 5 0),(9,iW (0 : Int))],[(5,⟨23,false,[rW false ([] : List Int) eW]⟩)]⟩) (VC.trans (VC.cell (t := 5) (i := 0) (v' := rW false ([] : List Int) eW) rfl rfl rfl (fun _ _ _ _ h => nil_rd h)) (VC.sub (.of rfl) (.of rfl))) ?_)
   refine Res.drop (H := [(5,⟨23,false,[rW false ([] : List Int) eW]⟩)]) rfl ?_
   exact Res.of rfl (.cons (.cell1 rfl one23 rfl rfl rfl) (.cons (.tmp rfl) (.nil))) rfl rfl
theorem c7 {β2 : Bool} {β3 : Bool} {β4 : Bool} (n : Nat) (a0 : R36) (a1 : R40) {r : ((List Int) × Int)} (h : m7 n a0 a1 = some r) : Spec Tryz.prog 7 [] [.agg (gW false β2 a0.Jb a0.Dn a0.Mt a0.Bo),.agg (tW encK40 β3 β4 a1.Sp a1.Kd a1.Lf)] [] (.tup [rW false r.1 eW,iW r.2]) [] := by
 refine Spec.of (fn := Tryz.f7) Tryz.func7 Tryz.ntmps7 rfl rfl (le1 rfl) (fun w0 Zs Zb T0 ι0 => ?_)
 unfold m7 at h
 refine AWP.seq ?_
 refine AWP.rg (.cons (.box (t := 1) (n := 4) (l1 rfl) (nm rfl) (.t rfl) (by first | exact ⟨rfl,rfl⟩ | rfl) rfl)<| .cons (.box (t := 2) (n := 3) (l1 rfl) (nm rfl) (.t rfl) (by first | exact ⟨rfl,rfl⟩ | rfl) rfl)<| .cons (.assign (l1 rfl) (.const _ _ _))<| .cons (.assign (l1 rfl) (.const _ _ _))<| .nil _ _ _) ?_
 refine AWP.vs ⟨[(2,.ptr 1 0),(3,.ptr 2 0)],[(2,⟨41,false,(tW encK40 β3 β4 a1.Sp a1.Kd a1.Lf)⟩),(1,⟨37,false,(gW false β2 a0.Jb a0.Dn a0.Mt a0.Bo)⟩)]⟩ rfl rfl ?_
 refine AWP.seq ?_
 refine AWP.seq ?_
 obtain ⟨y_1,hy_1,h⟩ := bindS h
 refine AWP.rg (.cons (.loadPA (l1 rfl) (.t rfl) agg37 rfl rfl rfl rfl)<| .cons (.call0 (bw := false) (l1 rfl) (c27 (β1 := false) (β2 := β2) n (R36.mk a0.Jb a0.Dn a0.Mt a0.Bo) hy_1) (.cons (.t rfl) (.ren rfl) (.nil)) rfl)<| .cons (.not (l1 rfl) (.t rfl))<| .nil _ _ _) ?_
 refine AWP.vs ⟨[(2,.ptr 1 0),(3,.ptr 2 0),(8,bW (!y_1))],[(2,⟨41,false,(tW encK40 β3 β4 a1.Sp a1.Kd a1.Lf)⟩),(1,⟨37,false,(gW false β2 a0.Jb a0.Dn a0.Mt a0.Bo)⟩)]⟩ rfl rfl ?_
 refine AWP.cond (.t rfl) (fun hc => ?_) (fun hc => ?_)
 ·have h := iteT hc h
  refine AWP.seq ?_
  refine AWP.rg (.cons (.assign (l1 rfl) (.const _ _ _))<| .cons (.assign (l1 rfl) (.const _ _ _))<| .nil _ _ _) ?_
  refine AWP.ret ?_
  obtain rfl := Option.some.inj h
  refine retJ (Res.vc (s' := ⟨[(4,rW false ([] : List Int) eW),(5,iW (1 : Int))],[]⟩) (VC.trans (VC.nilRd (d := 4) false rfl) (VC.sub (.of rfl) (.n _))) ?_)
  refine Res.drop (H := []) rfl ?_
  exact Res.of rfl (.cons (.tmp rfl) (.cons (.tmp rfl) (.nil))) rfl rfl
 ·have h := iteF hc h
  refine AWP.skip ?_
  refine AWP.seq ?_
  obtain ⟨y_2,hy_2,h⟩ := bindS h
  refine AWP.rg (.cons (.loadPA (l1 rfl) (.t rfl) agg37 rfl rfl rfl rfl)<| .cons (.loadPA (l1 rfl) (.t rfl) agg41 rfl rfl rfl rfl)<| .cons (.call0 (bw := false) (l1 rfl) (c28 (β2 := β2) (β3 := β3) (β4 := β4) n (R36.mk a0.Jb a0.Dn a0.Mt a0.Bo) (R40.mk a1.Sp a1.Kd a1.Lf) hy_2) (.cons (.t rfl) (.ren rfl) (.cons (.t rfl) (.ren rfl) (.cons (.func _ _ _) (.ren rfl) (.cons (.func _ _ _) (.ren rfl) (.nil))))) rfl)<| .cons (.extract (l1 rfl) (.t rfl) rfl)<| .cons (.extract (l1 rfl) (.t rfl) rfl)<| .cons (.assign (l1 rfl) (.t rfl))<| .cons (.assign (l1 rfl) (.t rfl))<| .nil _ _ _) ?_
  refine AWP.ret ?_
  obtain rfl := Option.some.inj h
  refine retJ (Res.vc (s' := ⟨[(4,rW false y_2.1 eW),(5,iW y_2.2)],[]⟩) (VC.sub (.of rfl) (.n _)) ?_)
  refine Res.drop (H := []) rfl ?_
  exact Res.of rfl (.cons (.tmp rfl) (.cons (.tmp rfl) (.nil))) rfl rfl
theorem c19 {β1 : Bool} (n : Nat) (a0 : (List R63)) {r : Bool} (h : m19 n a0 = some r) : Spec Tryz.prog 19 [] [rW β1 a0 e63] [] (bW r) [] := by
 refine Spec.of (fn := Tryz.f19) Tryz.func19 Tryz.ntmps19 rfl rfl (le1 rfl) (fun w0 Zs Zb T0 ι0 => ?_)
 unfold m19 at h
 refine AWP.seq ?_
 refine AWP.rg (.cons (.assign (l1 rfl) (.const _ _ _))<| .nil _ _ _) ?_
 refine AWP.vs ⟨[(0,rW β1 a0 e63)],[]⟩ rfl rfl ?_
 refine AWP.seq ?_
 refine AWP.seq ?_
 refine AWP.rg (.cons (.assign (l1 rfl) (.const _ _ _))<| .nil _ _ _) ?_
 refine AWP.vs ⟨[(0,rW β1 a0 e63),(3,iW (0 : Int))],[]⟩ rfl rfl ?_
 refine AWP.joinB' (S := fun p_14 : Unit => ⟨[(0,rW β1 a0 e63)],[]⟩) h (fun p_14 h => ?_) (fun k_15 h => ?_)
 ·refine AWP.seq ?_
  refine AWP.rg (.cons (.move (l1 rfl) (.t rfl))<| .cons (.lenRd (l1 rfl) (.t rfl) Tryz.underlying22)<| .cons (.leq (l1 rfl) (.t rfl) (.const _ _ _))<| .cons (.assign (l1 rfl) (.t rfl))<| .nil _ _ _) ?_
  refine AWP.ret ?_
  obtain rfl := Option.some.inj h
  refine retJ (Res.vc (s' := ⟨[(2,bW (decide ((a0.length : Int) ≤ (40 : Int))))],[]⟩) (VC.sub (.of rfl) (.n _)) ?_)
  refine Res.drop (H := []) rfl ?_
  exact Res.of rfl (.cons (.tmp rfl) (.nil)) rfl rfl
 ·refine AWP.vs ⟨[(0,rW β1 a0 e63),(3,iW (0 : Int))],[]⟩ rfl rfl ?_
  refine AWP.loopM (S := fun x_9 : Int => ⟨[(0,rW β1 a0 e63),(3,iW x_9)],[]⟩) (x := (0 : Int)) (fun nx_10 x_9 h => ?_) h
  unfold m19_L1 at h
  refine AWP.seq ?_
  refine AWP.seq ?_
  refine AWP.rg (.cons (.move (l1 rfl) (.t rfl))<| .cons (.move (l1 rfl) (.t rfl))<| .cons (.lenRd (l1 rfl) (.t rfl) Tryz.underlying22)<| .cons (.lss (l1 rfl) (.t rfl) (.t rfl))<| .nil _ _ _) ?_
  refine AWP.vs ⟨[(0,rW β1 a0 e63),(3,iW x_9),(8,bW (decide (x_9 < (a0.length : Int))))],[]⟩ rfl rfl ?_
  refine AWP.cond (.t rfl) (fun hc => ?_) (fun hc => ?_)
  ·have h := iteT hc h
   refine AWP.skip ?_
   refine AWP.seq ?_
   refine AWP.block ?_
   refine AWP.seq ?_
   obtain ⟨y_11,hy_11,h⟩ := bindS h
   refine AWP.rg (.cons (.move (l1 rfl) (.t rfl))<| .cons (.move (l1 rfl) (.t rfl))<| .cons (.indexRd (enc := e63) (l1 rfl) (.t rfl) (.t rfl) Tryz.underlying22 sz79 encR63_len rfl hy_11)<| .cons (.loadRA (out := [iW y_11.Rl,iW y_11.Ln,iW y_11.Due]) (l1 rfl) (.t rfl) agg79 (Nat.le_of_eq (Eq.symm (encR63_len _))) rfl)<| .cons (.alloc (t := 1) (k := ⟨79,false,[iW (0 : Int),iW (0 : Int),iW (0 : Int)]⟩) (l1 rfl) (nm rfl) zero79 rfl rfl)<| .cons (.storePA (.t rfl) (.t rfl) sz79 rfl rfl (le1 rfl) (one_lit rfl) (by intro h; cases h) rfl)<| .nil _ _ _) ?_
   refine AWP.vs ⟨[(0,rW β1 a0 e63),(3,iW x_9),(4,.ptr 1 0)],[(1,⟨79,false,[iW y_11.Rl,iW y_11.Ln,iW y_11.Due]⟩)]⟩ rfl rfl ?_
   refine AWP.seq ?_
   obtain ⟨t42_12,ht42_12,h⟩ := letS h
   refine AWP.rg (.cons (.fieldP (l1 rfl) (.t rfl) fld79_0)<| .cons (.loadP (l1 rfl) (.t rfl) one3 rfl rfl rfl)<| .cons (.lss (l1 rfl) (.t rfl) (.const _ _ _))<| .cons (.move (l1 rfl) (.t rfl))<| .guard (j := 3) (dj := 18) rfl (l1 rfl) rfl (l1 rfl) (fun hg => .fieldP (l1 rfl) (.t rfl) fld79_0)<| .guard (j := 3) (dj := 18) rfl (l1 rfl) rfl (l1 rfl) (fun hg => .loadP (l1 rfl) (.gd hg (.t rfl)) one3 rfl rfl rfl)<| .guard (j := 3) (dj := 18) rfl (l1 rfl) rfl (l1 rfl) (fun hg => .gtr (l1 rfl) (.gd hg (.t rfl)) (.const _ _ _))<| .cons (.pickOr (l1 rfl) (.t rfl) (.const _ _ _) (.t rfl))<| .cons (.move (l1 rfl) (.t rfl))<| .guard (j := 8) (dj := 23) rfl (l1 rfl) rfl (l1 rfl) (fun hg => .fieldP (l1 rfl) (.t rfl) fld79_1)<| .guard (j := 8) (dj := 23) rfl (l1 rfl) rfl (l1 rfl) (fun hg => .loadP (l1 rfl) (.gd hg (.t rfl)) one3 rfl rfl rfl)<| .guard (j := 8) (dj := 23) rfl (l1 rfl) rfl (l1 rfl) (fun hg => .lss (l1 rfl) (.gd hg (.t rfl)) (.const _ _ _))<| .cons (.pickOr (l1 rfl) (.t rfl) (.const _ _ _) (.t rfl))<| .cons (.move (l1 rfl) (.t rfl))<| .guard (j := 13) (dj := 28) rfl (l1 rfl) rfl (l1 rfl) (fun hg => .fieldP (l1 rfl) (.t rfl) fld79_1)<| .guard (j := 13) (dj := 28) rfl (l1 rfl) rfl (l1 rfl) (fun hg => .loadP (l1 rfl) (.gd hg (.t rfl)) one3 rfl rfl rfl)<| .guard (j := 13) (dj := 28) rfl (l1 rfl) rfl (l1 rfl) (fun hg => .gtr (l1 rfl) (.gd hg (.t rfl)) (.const _ _ _))<| .cons (.pickOr (l1 rfl) (.t rfl) (.const _ _ _) (.t rfl))<| .cons (.move (l1 rfl) (.t rfl))<| .guard (j := 18) (dj := 33) rfl (l1 rfl) rfl (l1 rfl) (fun hg => .fieldP (l1 rfl) (.t rfl) fld79_2)<| .guard (j := 18) (dj := 33) rfl (l1 rfl) rfl (l1 rfl) (fun hg => .loadP (l1 rfl) (.gd hg (.t rfl)) one3 rfl rfl rfl)<| .guard (j := 18) (dj := 33) rfl (l1 rfl) rfl (l1 rfl) (fun hg => .lss (l1 rfl) (.gd hg (.t rfl)) (.const _ _ _))<| .cons (.pickOr (l1 rfl) (.t rfl) (.const _ _ _) (.t rfl))<| .cons (.move (l1 rfl) (.t rfl))<| .guard (j := 23) (dj := 38) rfl (l1 rfl) rfl (l1 rfl) (fun hg => .fieldP (l1 rfl) (.t rfl) fld79_2)<| .guard (j := 23) (dj := 38) rfl (l1 rfl) rfl (l1 rfl) (fun hg => .loadP (l1 rfl) (.gd hg (.t rfl)) one3 rfl rfl rfl)<| .guard (j := 23) (dj := 38) rfl (l1 rfl) rfl (l1 rfl) (fun hg => .gtr (l1 rfl) (.gd hg (.t rfl)) (.const _ _ _))<| .cons (.pickOr (l1 rfl) (.t rfl) (.const _ _ _) (.t rfl))<| .nil _ _ _) ?_
   refine AWP.vc (s' := ⟨[(0,rW β1 a0 e63),(3,iW x_9),(42,bW t42_12)],[]⟩) (by subst ht42_12; exact VC.sub (.of rfl) (.n _)) ?_
   refine AWP.cond (.t rfl) (fun hc => ?_) (fun hc => ?_)
   ·have h := iteT hc h
    refine AWP.seq ?_
    refine AWP.rg (.cons (.assign (l1 rfl) (.const _ _ _))<| .nil _ _ _) ?_
    refine AWP.ret ?_
    obtain rfl := Option.some.inj h
    refine retJ (Res.vc (s' := ⟨[(2,bW false)],[]⟩) (VC.sub (.of rfl) (.n _)) ?_)
    refine Res.drop (H := []) rfl ?_
    exact Res.of rfl (.cons (.tmp rfl) (.nil)) rfl rfl
   ·have h := iteF hc h
    refine AWP.skip ?_
    obtain ⟨t3_13,ht3_13,h⟩ := letS h
    refine AWP.rg (.cons (.move (l1 rfl) (.t rfl))<| .cons (.add (l1 rfl) (.t rfl) (.const _ _ _))<| .cons (.assign (l1 rfl) (.t rfl))<| .nil _ _ _) ?_
    exact endJ t3_13 h (by subst ht3_13; exact VC.sub (.of rfl) (.n _))
  ·have h := iteF hc h
   refine AWP.exit ?_
   exact endJ () h (VC.sub (.of rfl) (.n _))
theorem c58 {β1 : Bool} (n : Nat) (a0 : (List Int)) (a1 : Int) {r : Bool} (h : m58 n a0 a1 = some r) : Spec Tryz.prog 58 [] [rW β1 a0 eW,iW a1] [] (bW r) [] := by
 refine Spec.of (fn := Tryz.f58) Tryz.func58 Tryz.ntmps58 rfl rfl (le1 rfl) (fun w0 Zs Zb T0 ι0 => ?_)
 unfold m58 at h
 refine AWP.seq ?_
 refine AWP.rg (.cons (.assign (l1 rfl) (.const _ _ _))<| .nil _ _ _) ?_
 refine AWP.vs ⟨[(0,rW β1 a0 eW),(1,iW a1)],[]⟩ rfl rfl ?_
 refine AWP.seq ?_
 refine AWP.seq ?_
 refine AWP.rg (.cons (.assign (l1 rfl) (.const _ _ _))<| .nil _ _ _) ?_
 refine AWP.vs ⟨[(0,rW β1 a0 eW),(1,iW a1),(5,iW (0 : Int))],[]⟩ rfl rfl ?_
 refine AWP.joinB' (S := fun p_11 : Unit => ⟨[],[]⟩) h (fun p_11 h => ?_) (fun k_12 h => ?_)
 ·refine AWP.seq ?_
  refine AWP.rg (.cons (.assign (l1 rfl) (.const _ _ _))<| .nil _ _ _) ?_
  refine AWP.ret ?_
  obtain rfl := Option.some.inj h
  refine retJ (Res.vc (s' := ⟨[(4,bW false)],[]⟩) (VC.sub (.of rfl) (.n _)) ?_)
  refine Res.drop (H := []) rfl ?_
  exact Res.of rfl (.cons (.tmp rfl) (.nil)) rfl rfl
 ·refine AWP.vs ⟨[(0,rW β1 a0 eW),(1,iW a1),(5,iW (0 : Int))],[]⟩ rfl rfl ?_
  refine AWP.loopM (S := fun x_7 : Int => ⟨[(0,rW β1 a0 eW),(1,iW a1),(5,iW x_7)],[]⟩) (x := (0 : Int)) (fun nx_8 x_7 h => ?_) h
  unfold m58_L1 at h
  refine AWP.seq ?_
  refine AWP.seq ?_
  refine AWP.rg (.cons (.move (l1 rfl) (.t rfl))<| .cons (.move (l1 rfl) (.t rfl))<| .cons (.lenRd (l1 rfl) (.t rfl) Tryz.underlying23)<| .cons (.lss (l1 rfl) (.t rfl) (.t rfl))<| .nil _ _ _) ?_
  refine AWP.vs ⟨[(0,rW β1 a0 eW),(1,iW a1),(5,iW x_7),(9,bW (decide (x_7 < (a0.length : Int))))],[]⟩ rfl rfl ?_
  refine AWP.cond (.t rfl) (fun hc => ?_) (fun hc => ?_)
  ·have h := iteT hc h
   refine AWP.skip ?_
   refine AWP.seq ?_
   refine AWP.block ?_
   refine AWP.seq ?_
   obtain ⟨y_9,hy_9,h⟩ := bindS h
   refine AWP.rg (.cons (.move (l1 rfl) (.t rfl))<| .cons (.move (l1 rfl) (.t rfl))<| .cons (.indexRd (enc := eW) (l1 rfl) (.t rfl) (.t rfl) Tryz.underlying23 sz3 (encI_len .i64) rfl hy_9)<| .cons (.loadR (v := iW y_9) (l1 rfl) (.t rfl) one3 rfl)<| .cons (.move (l1 rfl) (.t rfl))<| .cons (.eql (l1 rfl) (.t rfl) (.t rfl))<| .nil _ _ _) ?_
   refine AWP.vs ⟨[(0,rW β1 a0 eW),(1,iW a1),(5,iW x_7),(17,bW (decide (y_9 = a1)))],[]⟩ rfl rfl ?_
   refine AWP.cond (.t rfl) (fun hc => ?_) (fun hc => ?_)
   ·have h := iteT hc h
    refine AWP.seq ?_
    refine AWP.rg (.cons (.assign (l1 rfl) (.const _ _ _))<| .nil _ _ _) ?_
    refine AWP.ret ?_
    obtain rfl := Option.some.inj h
    refine retJ (Res.vc (s' := ⟨[(4,bW true)],[]⟩) (VC.sub (.of rfl) (.n _)) ?_)
    refine Res.drop (H := []) rfl ?_
    exact Res.of rfl (.cons (.tmp rfl) (.nil)) rfl rfl
   ·have h := iteF hc h
    refine AWP.skip ?_
    obtain ⟨t5_10,ht5_10,h⟩ := letS h
    refine AWP.rg (.cons (.move (l1 rfl) (.t rfl))<| .cons (.add (l1 rfl) (.t rfl) (.const _ _ _))<| .cons (.assign (l1 rfl) (.t rfl))<| .nil _ _ _) ?_
    exact endJ t5_10 h (by subst ht5_10; exact VC.sub (.of rfl) (.n _))
  ·have h := iteF hc h
   refine AWP.exit ?_
   exact endJ () h (VC.sub (.n _) (.n _))
theorem c36 {β1 : Bool} {β2 : Bool} (n : Nat) (a0 : (List R63)) (a1 : (List Int)) {r : Bool} (h : m36 n a0 a1 = some r) : Spec Tryz.prog 36 [] [rW β1 a0 e63,rW β2 a1 eW] [] (bW r) [] := by
 refine Spec.of (fn := Tryz.f36) Tryz.func36 Tryz.ntmps36 rfl rfl (le1 rfl) (fun w0 Zs Zb T0 ι0 => ?_)
 unfold m36 at h
 refine AWP.seq ?_
 refine AWP.rg (.cons (.assign (l1 rfl) (.const _ _ _))<| .nil _ _ _) ?_
 refine AWP.vs ⟨[(0,rW β1 a0 e63),(1,rW β2 a1 eW)],[]⟩ rfl rfl ?_
 refine AWP.seq ?_
 refine AWP.seq ?_
 refine AWP.rg (.cons (.assign (l1 rfl) (.const _ _ _))<| .nil _ _ _) ?_
 refine AWP.vs ⟨[(0,rW β1 a0 e63),(1,rW β2 a1 eW),(5,iW (0 : Int))],[]⟩ rfl rfl ?_
 refine AWP.joinB' (S := fun p_23 : Unit => ⟨[],[]⟩) h (fun p_23 h => ?_) (fun k_24 h => ?_)
 ·refine AWP.seq ?_
  refine AWP.rg (.cons (.assign (l1 rfl) (.const _ _ _))<| .nil _ _ _) ?_
  refine AWP.ret ?_
  obtain rfl := Option.some.inj h
  refine retJ (Res.vc (s' := ⟨[(4,bW true)],[]⟩) (VC.sub (.of rfl) (.n _)) ?_)
  refine Res.drop (H := []) rfl ?_
  exact Res.of rfl (.cons (.tmp rfl) (.nil)) rfl rfl
 ·refine AWP.vs ⟨[(0,rW β1 a0 e63),(1,rW β2 a1 eW),(5,iW (0 : Int))],[]⟩ rfl rfl ?_
  refine AWP.loopM (S := fun x_15 : Int => ⟨[(0,rW β1 a0 e63),(1,rW β2 a1 eW),(5,iW x_15)],[]⟩) (x := (0 : Int)) (fun nx_16 x_15 h => ?_) h
  unfold m36_L1 at h
  refine AWP.seq ?_
  refine AWP.seq ?_
  refine AWP.rg (.cons (.move (l1 rfl) (.t rfl))<| .cons (.move (l1 rfl) (.t rfl))<| .cons (.lenRd (l1 rfl) (.t rfl) Tryz.underlying23)<| .cons (.lss (l1 rfl) (.t rfl) (.t rfl))<| .nil _ _ _) ?_
  refine AWP.vs ⟨[(0,rW β1 a0 e63),(1,rW β2 a1 eW),(5,iW x_15),(9,bW (decide (x_15 < (a1.length : Int))))],[]⟩ rfl rfl ?_
  refine AWP.cond (.t rfl) (fun hc => ?_) (fun hc => ?_)
  ·have h := iteT hc h
   refine AWP.skip ?_
   refine AWP.seq ?_
   refine AWP.block ?_
   refine AWP.seq ?_
   obtain ⟨y_17,hy_17,h⟩ := bindS h
   obtain ⟨y_18,hy_18,h⟩ := bindS h
   obtain ⟨s_19,hs_19,h⟩ := bindS h
   obtain ⟨y_20,hy_20,h⟩ := bindS h
   obtain ⟨y_21,hy_21,h⟩ := bindS h
   refine AWP.dw mixed [(0,rW β1 a0 e63),(1,rW β2 a1 eW),(5,iW x_15),(9,bW (decide (x_15 < (a1.length : Int))))] [] [dO [1] 12 (rW β2 a1 eW),dO [2] 13 (iW x_15),dO [4,5] 14 (.rptr β2 [iW y_17]),dO [6] 15 (iW y_17),dO [7] 16 (bW (decide (y_17 < (0 : Int)))),dO [8] 17 (bW (decide (y_17 < (0 : Int)))),dO [9,1] 18 (.gd (!(decide (y_17 < (0 : Int)))) (rW β2 a1 eW)),dO [9,2] 19 (.gd (!(decide (y_17 < (0 : Int)))) (iW x_15)),dO [9,10,11] 20 (.gd (!(decide (y_17 < (0 : Int)))) (.rptr β2 [iW y_18])),dO [9,12] 21 (.gd (!(decide (y_17 < (0 : Int)))) (iW y_18)),dO [9,0] 22 (.gd (!(decide (y_17 < (0 : Int)))) (rW β1 a0 e63)),dO [9,14] 23 (.gd (!(decide (y_17 < (0 : Int)))) (iW (a0.length : Int))),dO [9,13,15] 24 (.gd (!(decide (y_17 < (0 : Int)))) (bW (decide ((a0.length : Int) ≤ y_18)))),dO [9,16] 25 (bW ((decide (y_17 < (0 : Int))) || (decide ((a0.length : Int) ≤ y_18)))),dO [17] 26 (bW ((decide (y_17 < (0 : Int))) || (decide ((a0.length : Int) ≤ y_18)))),dO [18,1] 27 (.gd (!((decide (y_17 < (0 : Int))) || (decide ((a0.length : Int) ≤ y_18)))) (rW β2 a1 eW)),dO [18,2] 28 (.gd (!((decide (y_17 < (0 : Int))) || (decide ((a0.length : Int) ≤ y_18)))) (iW x_15)),dO [18,19,20] 29 (.gd (!((decide (y_17 < (0 : Int))) || (decide ((a0.length : Int) ≤ y_18)))) (rW β2 s_19 eW)),dO [18,1] 30 (.gd (!((decide (y_17 < (0 : Int))) || (decide ((a0.length : Int) ≤ y_18)))) (rW β2 a1 eW)),dO [18,2] 31 (.gd (!((decide (y_17 < (0 : Int))) || (decide ((a0.length : Int) ≤ y_18)))) (iW x_15)),dO [18,22,23] 32 (.gd (!((decide (y_17 < (0 : Int))) || (decide ((a0.length : Int) ≤ y_18)))) (.rptr β2 [iW y_20])),dO [18,24] 33 (.gd (!((decide (y_17 < (0 : Int))) || (decide ((a0.length : Int) ≤ y_18)))) (iW y_20)),dO [18,21,25] 34 (.gd (!((decide (y_17 < (0 : Int))) || (decide ((a0.length : Int) ≤ y_18)))) (bW y_21)),dO [18,26] 35 (bW (((decide (y_17 < (0 : Int))) || (decide ((a0.length : Int) ≤ y_18))) || y_21))] [] [[]] [[],[],[0,2],[0,3],[0,4],[0,5],[0,6],[0,6],[0,8],[0,9],[0,6],[0,6,10,11],[0,12],[0,13],[0,14],[0,15],[0,15],[0,17],[0,15],[0,15],[0,15,18,20],[0,15,18,21],[0,22],[0,23]] [0,1,2,27] rfl rfl (by kernel_rfl) rfl (.p rfl (fun _ q _ => .move (l1 rfl) (q.t 0 rfl))<| .p rfl (fun _ q _ => .move (l1 rfl) (q.t 0 rfl))<| .p rfl (fun _ q _ => .indexRd (enc := eW) (l1 rfl) (q.t 0 rfl) (q.t 1 rfl) Tryz.underlying23 sz3 (encI_len .i64) rfl hy_17)<| .p rfl (fun _ q _ => .loadR (v := iW y_17) (l1 rfl) (q.t 0 rfl) one3 rfl)<| .p rfl (fun _ q _ => .lss (l1 rfl) (q.t 0 rfl) (.const _ _ _))<| .p rfl (fun _ q _ => .move (l1 rfl) (q.t 0 rfl))<| .gf rfl rfl rfl rfl rfl (fun hg _ q _ => .move (l1 rfl) (q.t 1 rfl))<| .gf rfl rfl rfl rfl rfl (fun hg _ q _ => .move (l1 rfl) (q.t 1 rfl))<| .gf rfl rfl rfl rfl rfl (fun hg _ q _ => .indexRd (enc := eW) (l1 rfl) (.gd hg (q.t 1 rfl)) (.gd hg (q.t 2 rfl)) Tryz.underlying23 sz3 (encI_len .i64) rfl (gdB hy_18 hg))<| .gf rfl rfl rfl rfl rfl (fun hg _ q _ => .loadR (v := iW y_18) (l1 rfl) (.gd hg (q.t 1 rfl)) one3 rfl)<| .gf rfl rfl rfl rfl rfl (fun hg _ q _ => .move (l1 rfl) (q.t 1 rfl))<| .gf rfl rfl rfl rfl rfl (fun hg _ q _ => .lenRd (l1 rfl) (.gd hg (q.t 1 rfl)) Tryz.underlying22)<| .gf rfl rfl rfl rfl rfl (fun hg _ q _ => .geq (l1 rfl) (.gd hg (q.t 1 rfl)) (.gd hg (q.t 2 rfl)))<| .p rfl (fun _ q _ => .pickOr (l1 rfl) (q.t 0 rfl) (.const _ _ _) (q.t 1 rfl))<| .p rfl (fun _ q _ => .move (l1 rfl) (q.t 0 rfl))<| .gf rfl rfl rfl rfl rfl (fun hg _ q _ => .move (l1 rfl) (q.t 1 rfl))<| .gf rfl rfl rfl rfl rfl (fun hg _ q _ => .move (l1 rfl) (q.t 1 rfl))<| .gf rfl rfl rfl rfl rfl (fun hg _ q _ => .slRd (enc := eW) (l1 rfl) (.gd hg (q.t 1 rfl)) Tryz.underlying23 sz3 (encI_len .i64) rfl (.none _ _ _) (.some (.gd hg (q.t 2 rfl))) (gdB hs_19 hg))<| .gf rfl rfl rfl rfl rfl (fun hg _ q _ => .move (l1 rfl) (q.t 1 rfl))<| .gf rfl rfl rfl rfl rfl (fun hg _ q _ => .move (l1 rfl) (q.t 1 rfl))<| .gf rfl rfl rfl rfl rfl (fun hg _ q _ => .indexRd (enc := eW) (l1 rfl) (.gd hg (q.t 1 rfl)) (.gd hg (q.t 2 rfl)) Tryz.underlying23 sz3 (encI_len .i64) rfl (gdB hy_20 hg))<| .gf rfl rfl rfl rfl rfl (fun hg _ q _ => .loadR (v := iW y_20) (l1 rfl) (.gd hg (q.t 1 rfl)) one3 rfl)<| .gf rfl rfl rfl rfl rfl (fun hg _ q _ => .call0 (bw := false) (l1 rfl) (c58 (β1 := β2) n s_19 y_20 (gdB hy_21 hg)) (.cons (.gd hg (q.t 1 rfl)) (.ren rfl) (.cons (.gd hg (q.t 2 rfl)) (.ren rfl) (.nil))) rfl)<| .p rfl (fun _ q _ => .pickOr (l1 rfl) (q.t 0 rfl) (.const _ _ _) (q.t 1 rfl))<| .nil _) rfl rfl ?_
   refine AWP.vs ⟨[(0,rW β1 a0 e63),(1,rW β2 a1 eW),(5,iW x_15),(35,bW (((decide (y_17 < (0 : Int))) || (decide ((a0.length : Int) ≤ y_18))) || y_21))],[]⟩ rfl rfl ?_
   refine AWP.cond (.t rfl) (fun hc => ?_) (fun hc => ?_)
   ·have h := iteT hc h
    refine AWP.seq ?_
    refine AWP.rg (.cons (.assign (l1 rfl) (.const _ _ _))<| .nil _ _ _) ?_
    refine AWP.ret ?_
    obtain rfl := Option.some.inj h
    refine retJ (Res.vc (s' := ⟨[(4,bW false)],[]⟩) (VC.sub (.of rfl) (.n _)) ?_)
    refine Res.drop (H := []) rfl ?_
    exact Res.of rfl (.cons (.tmp rfl) (.nil)) rfl rfl
   ·have h := iteF hc h
    refine AWP.skip ?_
    obtain ⟨t5_22,ht5_22,h⟩ := letS h
    refine AWP.rg (.cons (.move (l1 rfl) (.t rfl))<| .cons (.add (l1 rfl) (.t rfl) (.const _ _ _))<| .cons (.assign (l1 rfl) (.t rfl))<| .nil _ _ _) ?_
    exact endJ t5_22 h (by subst ht5_22; exact VC.sub (.of rfl) (.n _))
  ·have h := iteF hc h
   refine AWP.exit ?_
   exact endJ () h (VC.sub (.n _) (.n _))
theorem c31 {β1 : Bool} {β2 : Bool} (n : Nat) (a0 : R24) {r : Bool} (h : m31 n a0 = some r) : Spec Tryz.prog 31 [] [.agg (gW β1 β2 a0.Jb a0.Dn a0.Mt a0.Bo)] [] (bW r) [] := by
 refine Spec.of (fn := Tryz.f31) Tryz.func31 Tryz.ntmps31 rfl rfl (le1 rfl) (fun w0 Zs Zb T0 ι0 => ?_)
 unfold m31 at h
 refine AWP.seq ?_
 refine AWP.rg (.cons (.box (t := 1) (n := 4) (l1 rfl) (nm rfl) (.t rfl) (by first | exact ⟨rfl,rfl⟩ | rfl) rfl)<| .cons (.assign (l1 rfl) (.const _ _ _))<| .nil _ _ _) ?_
 refine AWP.vs ⟨[(1,.ptr 1 0)],[(1,⟨25,false,(gW β1 β2 a0.Jb a0.Dn a0.Mt a0.Bo)⟩)]⟩ rfl rfl ?_
 refine AWP.seq ?_
 obtain ⟨y_1,hy_1,h⟩ := bindS h
 obtain ⟨y_2,hy_2,h⟩ := bindS h
 refine AWP.rg (.cons (.fieldP (l1 rfl) (.t rfl) fld25_0)<| .cons (.loadP (l1 rfl) (.t rfl) one22 rfl rfl rfl)<| .cons (.lenRd (l1 rfl) (.t rfl) Tryz.underlying22)<| .cons (.gtr (l1 rfl) (.t rfl) (.const _ _ _))<| .cons (.move (l1 rfl) (.t rfl))<| .guard (j := 4) (dj := 7) rfl (l1 rfl) rfl (l1 rfl) (fun hg => .fieldP (l1 rfl) (.t rfl) fld25_0)<| .guard (j := 4) (dj := 7) rfl (l1 rfl) rfl (l1 rfl) (fun hg => .loadP (l1 rfl) (.gd hg (.t rfl)) one22 rfl rfl rfl)<| .guard (j := 4) (dj := 7) rfl (l1 rfl) rfl (l1 rfl) (fun hg => .call0 (bw := false) (l1 rfl) (c19 (β1 := β1) n a0.Jb (gdB hy_1 hg)) (.cons (.gd hg (.t rfl)) (.ren rfl) (.nil)) rfl)<| .cons (.pickAnd (l1 rfl) (.t rfl) (.t rfl) (.const _ _ _))<| .cons (.move (l1 rfl) (.t rfl))<| .guard (j := 9) (dj := 12) rfl (l1 rfl) rfl (l1 rfl) (fun hg => .fieldP (l1 rfl) (.t rfl) fld25_0)<| .guard (j := 9) (dj := 12) rfl (l1 rfl) rfl (l1 rfl) (fun hg => .loadP (l1 rfl) (.gd hg (.t rfl)) one22 rfl rfl rfl)<| .guard (j := 9) (dj := 12) rfl (l1 rfl) rfl (l1 rfl) (fun hg => .fieldP (l1 rfl) (.t rfl) fld25_1)<| .guard (j := 9) (dj := 12) rfl (l1 rfl) rfl (l1 rfl) (fun hg => .loadP (l1 rfl) (.gd hg (.t rfl)) one23 rfl rfl rfl)<| .guard (j := 9) (dj := 12) rfl (l1 rfl) rfl (l1 rfl) (fun hg => .call0 (bw := false) (l1 rfl) (c36 (β1 := β1) (β2 := β2) n a0.Jb a0.Dn (gdB hy_2 hg)) (.cons (.gd hg (.t rfl)) (.ren rfl) (.cons (.gd hg (.t rfl)) (.ren rfl) (.nil))) rfl)<| .cons (.pickAnd (l1 rfl) (.t rfl) (.t rfl) (.const _ _ _))<| .cons (.move (l1 rfl) (.t rfl))<| .guard (j := 16) (dj := 19) rfl (l1 rfl) rfl (l1 rfl) (fun hg => .fieldP (l1 rfl) (.t rfl) fld25_3)<| .guard (j := 16) (dj := 19) rfl (l1 rfl) rfl (l1 rfl) (fun hg => .loadP (l1 rfl) (.gd hg (.t rfl)) one3 rfl rfl rfl)<| .guard (j := 16) (dj := 19) rfl (l1 rfl) rfl (l1 rfl) (fun hg => .geq (l1 rfl) (.gd hg (.t rfl)) (.const _ _ _))<| .cons (.pickAnd (l1 rfl) (.t rfl) (.t rfl) (.const _ _ _))<| .cons (.move (l1 rfl) (.t rfl))<| .guard (j := 21) (dj := 24) rfl (l1 rfl) rfl (l1 rfl) (fun hg => .fieldP (l1 rfl) (.t rfl) fld25_3)<| .guard (j := 21) (dj := 24) rfl (l1 rfl) rfl (l1 rfl) (fun hg => .loadP (l1 rfl) (.gd hg (.t rfl)) one3 rfl rfl rfl)<| .guard (j := 21) (dj := 24) rfl (l1 rfl) rfl (l1 rfl) (fun hg => .leq (l1 rfl) (.gd hg (.t rfl)) (.const _ _ _))<| .cons (.pickAnd (l1 rfl) (.t rfl) (.t rfl) (.const _ _ _))<| .cons (.assign (l1 rfl) (.t rfl))<| .nil _ _ _) ?_
 refine AWP.ret ?_
 obtain rfl := Option.some.inj h
 refine retJ (Res.vc (s' := ⟨[(2,bW (((((decide ((0 : Int) < (a0.Jb.length : Int))) && y_1) && y_2) && (decide ((-1073741824 : Int) ≤ a0.Bo))) && (decide (a0.Bo ≤ (1073741824 : Int)))))],[]⟩) (VC.sub (.of rfl) (.n _)) ?_)
 refine Res.drop (H := []) rfl ?_
 exact Res.of rfl (.cons (.tmp rfl) (.nil)) rfl rfl
theorem c69 (n : Nat) (a0 : Int) {r : Bool} (h : m69 n a0 = some r) : Spec Tryz.prog 69 [] [iW a0] [] (bW r) [] := by
 refine Spec.of (fn := Tryz.f69) Tryz.func69 Tryz.ntmps69 rfl rfl (le1 rfl) (fun w0 Zs Zb T0 ι0 => ?_)
 unfold m69 at h
 refine AWP.seq ?_
 refine AWP.rg (.cons (.assign (l1 rfl) (.const _ _ _))<| .nil _ _ _) ?_
 refine AWP.vs ⟨[(0,iW a0)],[]⟩ rfl rfl ?_
 refine AWP.seq ?_
 refine AWP.rg (.cons (.move (l1 rfl) (.t rfl))<| .cons (.geq (l1 rfl) (.t rfl) (.const _ _ _))<| .cons (.move (l1 rfl) (.t rfl))<| .guard (j := 2) (dj := 5) rfl (l1 rfl) rfl (l1 rfl) (fun hg => .move (l1 rfl) (.t rfl))<| .guard (j := 2) (dj := 5) rfl (l1 rfl) rfl (l1 rfl) (fun hg => .leq (l1 rfl) (.gd hg (.t rfl)) (.const _ _ _))<| .cons (.pickAnd (l1 rfl) (.t rfl) (.t rfl) (.const _ _ _))<| .cons (.assign (l1 rfl) (.t rfl))<| .nil _ _ _) ?_
 refine AWP.ret ?_
 obtain rfl := Option.some.inj h
 refine retJ (Res.vc (s' := ⟨[(2,bW ((decide ((-1073741824 : Int) ≤ a0)) && (decide (a0 ≤ (1073741824 : Int)))))],[]⟩) (VC.sub (.of rfl) (.n _)) ?_)
 refine Res.drop (H := []) rfl ?_
 exact Res.of rfl (.cons (.tmp rfl) (.nil)) rfl rfl
theorem c53F (n : Nat) : ∀ (f : Nat) {β1 : Bool} {β2 : Bool} (a0 : R27) {r : Bool},m53F n f a0 = some r → Spec Tryz.prog 53 [] [.agg (tW encK27 β1 β2 a0.Sp a0.Kd a0.Lf)] [] (bW r) [] := by
 intro f
 induction f with
 | zero =>
  intro β1 β2 a0 r h
  cases (show (none : Option Bool) = some r from h)
 | succ f ih =>
 intro β1 β2 a0 r h
 replace h : m53B n (m53F n f) a0 = some r := h
 generalize m53F n f = rc_0 at h ih
 refine Spec.of (fn := Tryz.f53) Tryz.func53 Tryz.ntmps53 rfl rfl (le1 rfl) (fun w0 Zs Zb T0 ι0 => ?_)
 unfold m53B at h
 refine AWP.seq ?_
 refine AWP.rg (.cons (.box (t := 1) (n := 3) (l1 rfl) (nm rfl) (.t rfl) (by first | exact ⟨rfl,rfl⟩ | rfl) rfl)<| .cons (.assign (l1 rfl) (.const _ _ _))<| .nil _ _ _) ?_
 refine AWP.vs ⟨[(1,.ptr 1 0)],[(1,⟨28,false,(tW encK27 β1 β2 a0.Sp a0.Kd a0.Lf)⟩)]⟩ rfl rfl ?_
 refine AWP.seq ?_
 refine AWP.seq ?_
 obtain ⟨y_1,hy_1,h⟩ := bindS h
 obtain ⟨t43_2,ht43_2,h⟩ := letS h
 refine AWP.rg (.cons (.fieldP (l1 rfl) (.t rfl) fld28_0)<| .cons (.loadP (l1 rfl) (.t rfl) one3 rfl rfl rfl)<| .cons (.call0 (bw := false) (l1 rfl) (c69 n a0.Sp hy_1) (.cons (.t rfl) (.ren rfl) (.nil)) rfl)<| .cons (.not (l1 rfl) (.t rfl))<| .cons (.move (l1 rfl) (.t rfl))<| .guard (j := 4) (dj := 9) rfl (l1 rfl) rfl (l1 rfl) (fun hg => .fieldP (l1 rfl) (.t rfl) fld28_1)<| .guard (j := 4) (dj := 9) rfl (l1 rfl) rfl (l1 rfl) (fun hg => .loadP (l1 rfl) (.gd hg (.t rfl)) one26 rfl rfl rfl)<| .guard (j := 4) (dj := 9) rfl (l1 rfl) rfl (l1 rfl) (fun hg => .lenRd (l1 rfl) (.gd hg (.t rfl)) Tryz.underlying26)<| .guard (j := 4) (dj := 9) rfl (l1 rfl) rfl (l1 rfl) (fun hg => .gtr (l1 rfl) (.gd hg (.t rfl)) (.const _ _ _))<| .cons (.pickOr (l1 rfl) (.t rfl) (.const _ _ _) (.t rfl))<| .cons (.move (l1 rfl) (.t rfl))<| .guard (j := 10) (dj := 15) rfl (l1 rfl) rfl (l1 rfl) (fun hg => .fieldP (l1 rfl) (.t rfl) fld28_2)<| .guard (j := 10) (dj := 15) rfl (l1 rfl) rfl (l1 rfl) (fun hg => .loadP (l1 rfl) (.gd hg (.t rfl)) one23 rfl rfl rfl)<| .guard (j := 10) (dj := 15) rfl (l1 rfl) rfl (l1 rfl) (fun hg => .lenRd (l1 rfl) (.gd hg (.t rfl)) Tryz.underlying23)<| .guard (j := 10) (dj := 15) rfl (l1 rfl) rfl (l1 rfl) (fun hg => .gtr (l1 rfl) (.gd hg (.t rfl)) (.const _ _ _))<| .cons (.pickOr (l1 rfl) (.t rfl) (.const _ _ _) (.t rfl))<| .cons (.move (l1 rfl) (.t rfl))<| .guard (j := 16) (dj := 21) rfl (l1 rfl) rfl (l1 rfl) (fun hg => .fieldP (l1 rfl) (.t rfl) fld28_1)<| .guard (j := 16) (dj := 21) rfl (l1 rfl) rfl (l1 rfl) (fun hg => .loadP (l1 rfl) (.gd hg (.t rfl)) one26 rfl rfl rfl)<| .guard (j := 16) (dj := 21) rfl (l1 rfl) rfl (l1 rfl) (fun hg => .lenRd (l1 rfl) (.gd hg (.t rfl)) Tryz.underlying26)<| .guard (j := 16) (dj := 21) rfl (l1 rfl) rfl (l1 rfl) (fun hg => .gtr (l1 rfl) (.gd hg (.t rfl)) (.const _ _ _))<| .guard (j := 16) (dj := 21) rfl (l1 rfl) rfl (l1 rfl) (fun hg => .move (l1 rfl) (.gd hg (.t rfl)))<| .guard2 (j := 21) (dj := 26) rfl (l1 rfl) rfl (l1 rfl) (fun hg => .fieldP (l1 rfl) (.t rfl) fld28_2)<| .guard2 (j := 21) (dj := 26) rfl (l1 rfl) rfl (l1 rfl) (fun hg => .loadP (l1 rfl) (.gd hg (.t rfl)) one23 rfl rfl rfl)<| .guard2 (j := 21) (dj := 26) rfl (l1 rfl) rfl (l1 rfl) (fun hg => .lenRd (l1 rfl) (.gd hg (.t rfl)) Tryz.underlying23)<| .guard2 (j := 21) (dj := 26) rfl (l1 rfl) rfl (l1 rfl) (fun hg => .gtr (l1 rfl) (.gd hg (.t rfl)) (.const _ _ _))<| .guard (j := 16) (dj := 21) rfl (l1 rfl) rfl (l1 rfl) (fun hg => .pickAnd (l1 rfl) (.gd hg (.t rfl)) (.gdAnd hg (.t rfl)) (.const _ _ _))<| .cons (.pickOr (l1 rfl) (.t rfl) (.const _ _ _) (.t rfl))<| .cons (.move (l1 rfl) (.t rfl))<| .guard (j := 28) (dj := 33) rfl (l1 rfl) rfl (l1 rfl) (fun hg => .fieldP (l1 rfl) (.t rfl) fld28_1)<| .guard (j := 28) (dj := 33) rfl (l1 rfl) rfl (l1 rfl) (fun hg => .loadP (l1 rfl) (.gd hg (.t rfl)) one26 rfl rfl rfl)<| .guard (j := 28) (dj := 33) rfl (l1 rfl) rfl (l1 rfl) (fun hg => .lenRd (l1 rfl) (.gd hg (.t rfl)) Tryz.underlying26)<| .guard (j := 28) (dj := 33) rfl (l1 rfl) rfl (l1 rfl) (fun hg => .eql (l1 rfl) (.gd hg (.t rfl)) (.const _ _ _))<| .guard (j := 28) (dj := 33) rfl (l1 rfl) rfl (l1 rfl) (fun hg => .move (l1 rfl) (.gd hg (.t rfl)))<| .guard2 (j := 33) (dj := 38) rfl (l1 rfl) rfl (l1 rfl) (fun hg => .fieldP (l1 rfl) (.t rfl) fld28_0)<| .guard2 (j := 33) (dj := 38) rfl (l1 rfl) rfl (l1 rfl) (fun hg => .loadP (l1 rfl) (.gd hg (.t rfl)) one3 rfl rfl rfl)<| .guard2 (j := 33) (dj := 38) rfl (l1 rfl) rfl (l1 rfl) (fun hg => .neq (l1 rfl) (.gd hg (.t rfl)) (.const _ _ _))<| .guard (j := 28) (dj := 33) rfl (l1 rfl) rfl (l1 rfl) (fun hg => .pickAnd (l1 rfl) (.gd hg (.t rfl)) (.gdAnd hg (.t rfl)) (.const _ _ _))<| .cons (.pickOr (l1 rfl) (.t rfl) (.const _ _ _) (.t rfl))<| .nil _ _ _) ?_
 refine AWP.vc (s' := ⟨[(1,.ptr 1 0),(43,bW t43_2)],[(1,⟨28,false,(tW encK27 β1 β2 a0.Sp a0.Kd a0.Lf)⟩)]⟩) (by subst ht43_2; exact VC.sub (.of rfl) (.of rfl)) ?_
 refine AWP.cond (.t rfl) (fun hc => ?_) (fun hc => ?_)
 ·have h := iteT hc h
  refine AWP.seq ?_
  refine AWP.rg (.cons (.assign (l1 rfl) (.const _ _ _))<| .nil _ _ _) ?_
  refine AWP.ret ?_
  obtain rfl := Option.some.inj h
  refine retJ (Res.vc (s' := ⟨[(2,bW false)],[]⟩) (VC.sub (.of rfl) (.n _)) ?_)
  refine Res.drop (H := []) rfl ?_
  exact Res.of rfl (.cons (.tmp rfl) (.nil)) rfl rfl
 ·have h := iteF hc h
  refine AWP.skip ?_
  refine AWP.seq ?_
  refine AWP.seq ?_
  refine AWP.rg (.cons (.assign (l1 rfl) (.const _ _ _))<| .nil _ _ _) ?_
  refine AWP.vs ⟨[(1,.ptr 1 0),(3,iW (0 : Int))],[(1,⟨28,false,(tW encK27 β1 β2 a0.Sp a0.Kd a0.Lf)⟩)]⟩ rfl rfl ?_
  refine AWP.joinB' (S := fun p_16 : Unit => ⟨[(1,.ptr 1 0)],[(1,⟨28,false,(tW encK27 β1 β2 a0.Sp a0.Kd a0.Lf)⟩)]⟩) h (fun p_16 h => ?_) (fun k_17 h => ?_)
  ·refine AWP.seq ?_
   refine AWP.seq ?_
   refine AWP.rg (.cons (.assign (l1 rfl) (.const _ _ _))<| .nil _ _ _) ?_
   refine AWP.vs ⟨[(1,.ptr 1 0),(4,iW (0 : Int))],[(1,⟨28,false,(tW encK27 β1 β2 a0.Sp a0.Kd a0.Lf)⟩)]⟩ rfl rfl ?_
   refine AWP.joinB' (S := fun p_31 : Unit => ⟨[],[]⟩) h (fun p_31 h => ?_) (fun k_32 h => ?_)
   ·refine AWP.seq ?_
    refine AWP.rg (.cons (.assign (l1 rfl) (.const _ _ _))<| .nil _ _ _) ?_
    refine AWP.ret ?_
    obtain rfl := Option.some.inj h
    refine retJ (Res.vc (s' := ⟨[(2,bW true)],[]⟩) (VC.sub (.of rfl) (.n _)) ?_)
    refine Res.drop (H := []) rfl ?_
    exact Res.of rfl (.cons (.tmp rfl) (.nil)) rfl rfl
   ·refine AWP.vs ⟨[(1,.ptr 1 0),(4,iW (0 : Int))],[(1,⟨28,false,(tW encK27 β1 β2 a0.Sp a0.Kd a0.Lf)⟩)]⟩ rfl rfl ?_
    refine AWP.loopM (S := fun x_26 : Int => ⟨[(1,.ptr 1 0),(4,iW x_26)],[(1,⟨28,false,(tW encK27 β1 β2 a0.Sp a0.Kd a0.Lf)⟩)]⟩) (x := (0 : Int)) (fun nx_27 x_26 h => ?_) h
    unfold m53_L2 at h
    refine AWP.seq ?_
    refine AWP.seq ?_
    refine AWP.rg (.cons (.move (l1 rfl) (.t rfl))<| .cons (.fieldP (l1 rfl) (.t rfl) fld28_1)<| .cons (.loadP (l1 rfl) (.t rfl) one26 rfl rfl rfl)<| .cons (.lenRd (l1 rfl) (.t rfl) Tryz.underlying26)<| .cons (.lss (l1 rfl) (.t rfl) (.t rfl))<| .nil _ _ _) ?_
    refine AWP.vs ⟨[(1,.ptr 1 0),(4,iW x_26),(62,bW (decide (x_26 < (a0.Kd.length : Int))))],[(1,⟨28,false,(tW encK27 β1 β2 a0.Sp a0.Kd a0.Lf)⟩)]⟩ rfl rfl ?_
    refine AWP.cond (.t rfl) (fun hc => ?_) (fun hc => ?_)
    ·have h := iteT hc h
     refine AWP.skip ?_
     refine AWP.seq ?_
     refine AWP.block ?_
     refine AWP.seq ?_
     obtain ⟨y_28,hy_28,h⟩ := bindS h
     obtain ⟨y_29,hy_29,h⟩ := bindS h
     refine AWP.rg (.cons (.fieldP (l1 rfl) (.t rfl) fld28_1)<| .cons (.loadP (l1 rfl) (.t rfl) one26 rfl rfl rfl)<| .cons (.move (l1 rfl) (.t rfl))<| .cons (.indexRdC (enc := encK27) (l1 rfl) (.t rfl) (.t rfl) Tryz.underlying26 sz28 encK27_len rfl hy_28 (encK27_out _))<| .cons (.loadRA (out := (tW encK27 β1 β1 y_28.out.Sp y_28.out.Kd y_28.out.Lf)) (l1 rfl) (.t rfl) agg28 (le1 rfl) rfl)<| .cons (.call0 (bw := false) (l1 rfl) (ih (β1 := β1) (β2 := β1) (R27.mk y_28.out.Sp y_28.out.Kd y_28.out.Lf) hy_29) (.cons (.t rfl) (.ren rfl) (.nil)) rfl)<| .cons (.not (l1 rfl) (.t rfl))<| .nil _ _ _) ?_
     refine AWP.vs ⟨[(1,.ptr 1 0),(4,iW x_26),(71,bW (!y_29))],[(1,⟨28,false,(tW encK27 β1 β2 a0.Sp a0.Kd a0.Lf)⟩)]⟩ rfl rfl ?_
     refine AWP.cond (.t rfl) (fun hc => ?_) (fun hc => ?_)
     ·have h := iteT hc h
      refine AWP.seq ?_
      refine AWP.rg (.cons (.assign (l1 rfl) (.const _ _ _))<| .nil _ _ _) ?_
      refine AWP.ret ?_
      obtain rfl := Option.some.inj h
      refine retJ (Res.vc (s' := ⟨[(2,bW false)],[]⟩) (VC.sub (.of rfl) (.n _)) ?_)
      refine Res.drop (H := []) rfl ?_
      exact Res.of rfl (.cons (.tmp rfl) (.nil)) rfl rfl
     ·have h := iteF hc h
      refine AWP.skip ?_
      obtain ⟨t4_30,ht4_30,h⟩ := letS h
      refine AWP.rg (.cons (.move (l1 rfl) (.t rfl))<| .cons (.add (l1 rfl) (.t rfl) (.const _ _ _))<| .cons (.assign (l1 rfl) (.t rfl))<| .nil _ _ _) ?_
      exact endJ t4_30 h (by subst ht4_30; exact VC.sub (.of rfl) (.of rfl))
    ·have h := iteF hc h
     refine AWP.exit ?_
     exact endJ () h (VC.sub (.n _) (.n _))
  ·refine AWP.vs ⟨[(1,.ptr 1 0),(3,iW (0 : Int))],[(1,⟨28,false,(tW encK27 β1 β2 a0.Sp a0.Kd a0.Lf)⟩)]⟩ rfl rfl ?_
   refine AWP.loopM (S := fun x_11 : Int => ⟨[(1,.ptr 1 0),(3,iW x_11)],[(1,⟨28,false,(tW encK27 β1 β2 a0.Sp a0.Kd a0.Lf)⟩)]⟩) (x := (0 : Int)) (fun nx_12 x_11 h => ?_) h
   unfold m53_L1 at h
   refine AWP.seq ?_
   refine AWP.seq ?_
   refine AWP.rg (.cons (.move (l1 rfl) (.t rfl))<| .cons (.fieldP (l1 rfl) (.t rfl) fld28_2)<| .cons (.loadP (l1 rfl) (.t rfl) one23 rfl rfl rfl)<| .cons (.lenRd (l1 rfl) (.t rfl) Tryz.underlying23)<| .cons (.lss (l1 rfl) (.t rfl) (.t rfl))<| .nil _ _ _) ?_
   refine AWP.vs ⟨[(1,.ptr 1 0),(3,iW x_11),(48,bW (decide (x_11 < (a0.Lf.length : Int))))],[(1,⟨28,false,(tW encK27 β1 β2 a0.Sp a0.Kd a0.Lf)⟩)]⟩ rfl rfl ?_
   refine AWP.cond (.t rfl) (fun hc => ?_) (fun hc => ?_)
   ·have h := iteT hc h
    refine AWP.skip ?_
    refine AWP.seq ?_
    refine AWP.block ?_
    refine AWP.seq ?_
    obtain ⟨y_13,hy_13,h⟩ := bindS h
    obtain ⟨y_14,hy_14,h⟩ := bindS h
    refine AWP.rg (.cons (.fieldP (l1 rfl) (.t rfl) fld28_2)<| .cons (.loadP (l1 rfl) (.t rfl) one23 rfl rfl rfl)<| .cons (.move (l1 rfl) (.t rfl))<| .cons (.indexRd (enc := eW) (l1 rfl) (.t rfl) (.t rfl) Tryz.underlying23 sz3 (encI_len .i64) rfl hy_13)<| .cons (.loadR (v := iW y_13) (l1 rfl) (.t rfl) one3 rfl)<| .cons (.call0 (bw := false) (l1 rfl) (c69 n y_13 hy_14) (.cons (.t rfl) (.ren rfl) (.nil)) rfl)<| .cons (.not (l1 rfl) (.t rfl))<| .nil _ _ _) ?_
    refine AWP.vs ⟨[(1,.ptr 1 0),(3,iW x_11),(57,bW (!y_14))],[(1,⟨28,false,(tW encK27 β1 β2 a0.Sp a0.Kd a0.Lf)⟩)]⟩ rfl rfl ?_
    refine AWP.cond (.t rfl) (fun hc => ?_) (fun hc => ?_)
    ·have h := iteT hc h
     refine AWP.seq ?_
     refine AWP.rg (.cons (.assign (l1 rfl) (.const _ _ _))<| .nil _ _ _) ?_
     refine AWP.ret ?_
     obtain rfl := Option.some.inj h
     refine retJ (Res.vc (s' := ⟨[(2,bW false)],[]⟩) (VC.sub (.of rfl) (.n _)) ?_)
     refine Res.drop (H := []) rfl ?_
     exact Res.of rfl (.cons (.tmp rfl) (.nil)) rfl rfl
    ·have h := iteF hc h
     refine AWP.skip ?_
     obtain ⟨t3_15,ht3_15,h⟩ := letS h
     refine AWP.rg (.cons (.move (l1 rfl) (.t rfl))<| .cons (.add (l1 rfl) (.t rfl) (.const _ _ _))<| .cons (.assign (l1 rfl) (.t rfl))<| .nil _ _ _) ?_
     exact endJ t3_15 h (by subst ht3_15; exact VC.sub (.of rfl) (.of rfl))
   ·have h := iteF hc h
    refine AWP.exit ?_
    exact endJ () h (VC.sub (.of rfl) (.of rfl))
theorem c53 (n : Nat) {β1 : Bool} {β2 : Bool} (a0 : R27) {r : Bool} (h : m53 n a0 = some r) : Spec Tryz.prog 53 [] [.agg (tW encK27 β1 β2 a0.Sp a0.Kd a0.Lf)] [] (bW r) [] := c53F n n a0 h
theorem c54F (n : Nat) : ∀ (f : Nat) {β1 : Bool} {β2 : Bool} (a0 : R27) {r : Int},m54F n f a0 = some r → Spec Tryz.prog 54 [] [.agg (tW encK27 β1 β2 a0.Sp a0.Kd a0.Lf)] [] (iW r) [] := by
 intro f
 induction f with
 | zero =>
  intro β1 β2 a0 r h
  cases (show (none : Option Int) = some r from h)
 | succ f ih =>
 intro β1 β2 a0 r h
 replace h : m54B n (m54F n f) a0 = some r := h
 generalize m54F n f = rc_0 at h ih
 refine Spec.of (fn := Tryz.f54) Tryz.func54 Tryz.ntmps54 rfl rfl (le1 rfl) (fun w0 Zs Zb T0 ι0 => ?_)
 unfold m54B at h
 refine AWP.seq ?_
 refine AWP.rg (.cons (.box (t := 1) (n := 3) (l1 rfl) (nm rfl) (.t rfl) (by first | exact ⟨rfl,rfl⟩ | rfl) rfl)<| .cons (.assign (l1 rfl) (.const _ _ _))<| .nil _ _ _) ?_
 refine AWP.vs ⟨[(1,.ptr 1 0)],[(1,⟨28,false,(tW encK27 β1 β2 a0.Sp a0.Kd a0.Lf)⟩)]⟩ rfl rfl ?_
 refine AWP.seq ?_
 refine AWP.rg (.cons (.assign (l1 rfl) (.const _ _ _))<| .nil _ _ _) ?_
 refine AWP.vs ⟨[(1,.ptr 1 0),(3,iW (0 : Int))],[(1,⟨28,false,(tW encK27 β1 β2 a0.Sp a0.Kd a0.Lf)⟩)]⟩ rfl rfl ?_
 refine AWP.seq ?_
 refine AWP.seq ?_
 refine AWP.rg (.cons (.assign (l1 rfl) (.const _ _ _))<| .nil _ _ _) ?_
 refine AWP.vs ⟨[(1,.ptr 1 0),(3,iW (0 : Int)),(4,iW (0 : Int))],[(1,⟨28,false,(tW encK27 β1 β2 a0.Sp a0.Kd a0.Lf)⟩)]⟩ rfl rfl ?_
 refine AWP.joinB' (S := fun p_17 : Int => ⟨[(3,iW p_17)],[]⟩) h (fun p_17 h => ?_) (fun k_18 h => ?_)
 ·refine AWP.seq ?_
  obtain ⟨t2_19,ht2_19,h⟩ := letS h
  refine AWP.rg (.cons (.move (l1 rfl) (.t rfl))<| .cons (.add (l1 rfl) (.t rfl) (.const _ _ _))<| .cons (.assign (l1 rfl) (.t rfl))<| .nil _ _ _) ?_
  refine AWP.ret ?_
  obtain rfl := Option.some.inj h
  refine retJ (Res.vc (s' := ⟨[(2,iW t2_19)],[]⟩) (by subst ht2_19; exact VC.sub (.of rfl) (.n _)) ?_)
  refine Res.drop (H := []) rfl ?_
  exact Res.of rfl (.cons (.tmp rfl) (.nil)) rfl rfl
 ·refine AWP.vs ⟨[(1,.ptr 1 0),(3,iW (0 : Int)),(4,iW (0 : Int))],[(1,⟨28,false,(tW encK27 β1 β2 a0.Sp a0.Kd a0.Lf)⟩)]⟩ rfl rfl ?_
  refine AWP.loopM (S := fun x_11 : Int × Int => ⟨[(1,.ptr 1 0),(3,iW x_11.1),(4,iW x_11.2)],[(1,⟨28,false,(tW encK27 β1 β2 a0.Sp a0.Kd a0.Lf)⟩)]⟩) (x := ((0 : Int),(0 : Int))) (fun nx_12 x_11 h => ?_) h
  unfold m54_L1 at h
  refine AWP.seq ?_
  refine AWP.seq ?_
  refine AWP.rg (.cons (.move (l1 rfl) (.t rfl))<| .cons (.fieldP (l1 rfl) (.t rfl) fld28_1)<| .cons (.loadP (l1 rfl) (.t rfl) one26 rfl rfl rfl)<| .cons (.lenRd (l1 rfl) (.t rfl) Tryz.underlying26)<| .cons (.lss (l1 rfl) (.t rfl) (.t rfl))<| .nil _ _ _) ?_
  refine AWP.vs ⟨[(1,.ptr 1 0),(3,iW x_11.1),(4,iW x_11.2),(9,bW (decide (x_11.2 < (a0.Kd.length : Int))))],[(1,⟨28,false,(tW encK27 β1 β2 a0.Sp a0.Kd a0.Lf)⟩)]⟩ rfl rfl ?_
  refine AWP.cond (.t rfl) (fun hc => ?_) (fun hc => ?_)
  ·have h := iteT hc h
   refine AWP.skip ?_
   refine AWP.seq ?_
   refine AWP.block ?_
   obtain ⟨y_13,hy_13,h⟩ := bindS h
   obtain ⟨y_14,hy_14,h⟩ := bindS h
   obtain ⟨t3_15,ht3_15,h⟩ := letS h
   refine AWP.rg (.cons (.move (l1 rfl) (.t rfl))<| .cons (.fieldP (l1 rfl) (.t rfl) fld28_1)<| .cons (.loadP (l1 rfl) (.t rfl) one26 rfl rfl rfl)<| .cons (.move (l1 rfl) (.t rfl))<| .cons (.indexRdC (enc := encK27) (l1 rfl) (.t rfl) (.t rfl) Tryz.underlying26 sz28 encK27_len rfl hy_13 (encK27_out _))<| .cons (.loadRA (out := (tW encK27 β1 β1 y_13.out.Sp y_13.out.Kd y_13.out.Lf)) (l1 rfl) (.t rfl) agg28 (le1 rfl) rfl)<| .cons (.call0 (bw := false) (l1 rfl) (ih (β1 := β1) (β2 := β1) (R27.mk y_13.out.Sp y_13.out.Kd y_13.out.Lf) hy_14) (.cons (.t rfl) (.ren rfl) (.nil)) rfl)<| .cons (.max2 (l1 rfl) (.t rfl) (.t rfl))<| .cons (.assign (l1 rfl) (.t rfl))<| .nil _ _ _) ?_
   refine AWP.vc (s' := ⟨[(1,.ptr 1 0),(3,iW t3_15),(4,iW x_11.2)],[(1,⟨28,false,(tW encK27 β1 β2 a0.Sp a0.Kd a0.Lf)⟩)]⟩) (by subst ht3_15; exact VC.sub (.of rfl) (.of rfl)) ?_
   obtain ⟨t4_16,ht4_16,h⟩ := letS h
   refine AWP.rg (.cons (.move (l1 rfl) (.t rfl))<| .cons (.add (l1 rfl) (.t rfl) (.const _ _ _))<| .cons (.assign (l1 rfl) (.t rfl))<| .nil _ _ _) ?_
   exact endJ (t3_15,t4_16) h (by subst ht4_16; exact VC.sub (.of rfl) (.of rfl))
  ·have h := iteF hc h
   refine AWP.exit ?_
   exact endJ x_11.1 h (VC.sub (.of rfl) (.n _))
theorem c54 (n : Nat) {β1 : Bool} {β2 : Bool} (a0 : R27) {r : Int} (h : m54 n a0 = some r) : Spec Tryz.prog 54 [] [.agg (tW encK27 β1 β2 a0.Sp a0.Kd a0.Lf)] [] (iW r) [] := c54F n n a0 h
theorem c32 {β1 : Bool} {β2 : Bool} (n : Nat) (a0 : R27) {r : Bool} (h : m32 n a0 = some r) : Spec Tryz.prog 32 [] [.agg (tW encK27 β1 β2 a0.Sp a0.Kd a0.Lf)] [] (bW r) [] := by
 refine Spec.of (fn := Tryz.f32) Tryz.func32 Tryz.ntmps32 rfl rfl (le1 rfl) (fun w0 Zs Zb T0 ι0 => ?_)
 unfold m32 at h
 refine AWP.seq ?_
 refine AWP.rg (.cons (.box (t := 1) (n := 3) (l1 rfl) (nm rfl) (.t rfl) (by first | exact ⟨rfl,rfl⟩ | rfl) rfl)<| .cons (.assign (l1 rfl) (.const _ _ _))<| .nil _ _ _) ?_
 refine AWP.vs ⟨[(1,.ptr 1 0)],[(1,⟨28,false,(tW encK27 β1 β2 a0.Sp a0.Kd a0.Lf)⟩)]⟩ rfl rfl ?_
 refine AWP.seq ?_
 obtain ⟨y_1,hy_1,h⟩ := bindS h
 obtain ⟨y_2,hy_2,h⟩ := bindS h
 obtain ⟨y_3,hy_3,h⟩ := bindS h
 refine AWP.rg (.cons (.loadPA (l1 rfl) (.t rfl) agg28 rfl rfl rfl rfl)<| .cons (.call0 (bw := false) (l1 rfl) (c53 (β1 := β1) (β2 := β2) n (R27.mk a0.Sp a0.Kd a0.Lf) hy_1) (.cons (.t rfl) (.ren rfl) (.nil)) rfl)<| .cons (.move (l1 rfl) (.t rfl))<| .guard (j := 2) (dj := 5) rfl (l1 rfl) rfl (l1 rfl) (fun hg => .loadPA (l1 rfl) (.t rfl) agg28 rfl rfl rfl rfl)<| .guard (j := 2) (dj := 5) rfl (l1 rfl) rfl (l1 rfl) (fun hg => .call0 (bw := false) (l1 rfl) (c26 (β1 := β1) (β2 := β2) n (R27.mk a0.Sp a0.Kd a0.Lf) (gdB hy_2 hg)) (.cons (.gd hg (.t rfl)) (.ren rfl) (.nil)) rfl)<| .guard (j := 2) (dj := 5) rfl (l1 rfl) rfl (l1 rfl) (fun hg => .leq (l1 rfl) (.gd hg (.t rfl)) (.const _ _ _))<| .cons (.pickAnd (l1 rfl) (.t rfl) (.t rfl) (.const _ _ _))<| .cons (.move (l1 rfl) (.t rfl))<| .guard (j := 7) (dj := 10) rfl (l1 rfl) rfl (l1 rfl) (fun hg => .loadPA (l1 rfl) (.t rfl) agg28 rfl rfl rfl rfl)<| .guard (j := 7) (dj := 10) rfl (l1 rfl) rfl (l1 rfl) (fun hg => .call0 (bw := false) (l1 rfl) (c54 (β1 := β1) (β2 := β2) n (R27.mk a0.Sp a0.Kd a0.Lf) (gdB hy_3 hg)) (.cons (.gd hg (.t rfl)) (.ren rfl) (.nil)) rfl)<| .guard (j := 7) (dj := 10) rfl (l1 rfl) rfl (l1 rfl) (fun hg => .leq (l1 rfl) (.gd hg (.t rfl)) (.const _ _ _))<| .cons (.pickAnd (l1 rfl) (.t rfl) (.t rfl) (.const _ _ _))<| .cons (.assign (l1 rfl) (.t rfl))<| .nil _ _ _) ?_
 refine AWP.ret ?_
 obtain rfl := Option.some.inj h
 refine retJ (Res.vc (s' := ⟨[(2,bW ((y_1 && (decide (y_2 ≤ (2000 : Int)))) && (decide (y_3 ≤ (40 : Int)))))],[]⟩) (VC.sub (.of rfl) (.n _)) ?_)
 refine Res.drop (H := []) rfl ?_
 exact Res.of rfl (.cons (.tmp rfl) (.nil)) rfl rfl
theorem c59 {β1 : Bool} {β2 : Bool} (n : Nat) (a0 : (List R63)) (a1 : (List Int)) {r : ((List Int) × Int)} (h : m59 n a0 a1 = some r) : Spec Tryz.prog 59 [] [rW β1 a0 e63,rW β2 a1 eW] [] (.tup [rW false r.1 eW,iW r.2]) [] := by
 refine Spec.of (fn := Tryz.f59) Tryz.func59 Tryz.ntmps59 rfl rfl (le1 rfl) (fun w0 Zs Zb T0 ι0 => ?_)
 unfold m59 at h
 refine AWP.seq ?_
 refine AWP.rg (.cons (.assign (l1 rfl) (.const _ _ _))<| .cons (.assign (l1 rfl) (.const _ _ _))<| .nil _ _ _) ?_
 refine AWP.vs ⟨[(0,rW β1 a0 e63),(1,rW β2 a1 eW)],[]⟩ rfl rfl ?_
 refine AWP.seq ?_
 refine AWP.block ?_
 refine AWP.seq ?_
 obtain ⟨y_1,hy_1,h⟩ := bindS h
 refine AWP.rg (.cons (.move (l1 rfl) (.t rfl))<| .cons (.call0 (bw := false) (l1 rfl) (c19 (β1 := β1) n a0 hy_1) (.cons (.t rfl) (.ren rfl) (.nil)) rfl)<| .cons (.not (l1 rfl) (.t rfl))<| .cons (.assign (l1 rfl) (.t rfl))<| .nil _ _ _) ?_
 refine AWP.vs ⟨[(0,rW β1 a0 e63),(1,rW β2 a1 eW),(9,bW (!y_1))],[]⟩ rfl rfl ?_
 refine AWP.cond (.t rfl) (fun hc => ?_) (fun hc => ?_)
 ·have h := iteT hc h
  refine AWP.seq ?_
  refine AWP.rg (.cons (.assign (l1 rfl) (.const _ _ _))<| .cons (.assign (l1 rfl) (.const _ _ _))<| .nil _ _ _) ?_
  refine AWP.ret ?_
  obtain rfl := Option.some.inj h
  refine retJ (Res.vc (s' := ⟨[(4,rW false ([] : List Int) eW),(5,iW (1 : Int))],[]⟩) (VC.trans (VC.nilRd (d := 4) false rfl) (VC.sub (.of rfl) (.n _))) ?_)
  refine Res.drop (H := []) rfl ?_
  exact Res.of rfl (.cons (.tmp rfl) (.cons (.tmp rfl) (.nil))) rfl rfl
 ·have h := iteF hc h
  refine AWP.seq ?_
  obtain ⟨y_2,hy_2,h⟩ := bindS h
  refine AWP.rg (.cons (.move (l1 rfl) (.t rfl))<| .cons (.move (l1 rfl) (.t rfl))<| .cons (.call0 (bw := false) (l1 rfl) (c36 (β1 := β1) (β2 := β2) n a0 a1 hy_2) (.cons (.t rfl) (.ren rfl) (.cons (.t rfl) (.ren rfl) (.nil))) rfl)<| .cons (.not (l1 rfl) (.t rfl))<| .cons (.assign (l1 rfl) (.t rfl))<| .nil _ _ _) ?_
  refine AWP.vs ⟨[(0,rW β1 a0 e63),(1,rW β2 a1 eW),(13,bW (!y_2))],[]⟩ rfl rfl ?_
  refine AWP.cond (.t rfl) (fun hc => ?_) (fun hc => ?_)
  ·have h := iteT hc h
   refine AWP.seq ?_
   refine AWP.rg (.cons (.assign (l1 rfl) (.const _ _ _))<| .cons (.assign (l1 rfl) (.const _ _ _))<| .nil _ _ _) ?_
   refine AWP.ret ?_
   obtain rfl := Option.some.inj h
   refine retJ (Res.vc (s' := ⟨[(4,rW false ([] : List Int) eW),(5,iW (22 : Int))],[]⟩) (VC.trans (VC.nilRd (d := 4) false rfl) (VC.sub (.of rfl) (.n _))) ?_)
   refine Res.drop (H := []) rfl ?_
   exact Res.of rfl (.cons (.tmp rfl) (.cons (.tmp rfl) (.nil))) rfl rfl
  ·have h := iteF hc h
   refine AWP.skip ?_
   refine AWP.seq ?_
   refine AWP.rg (.cons (.assign (l1 rfl) (.const _ _ _))<| .nil _ _ _) ?_
   refine AWP.vs ⟨[(0,rW β1 a0 e63),(1,rW β2 a1 eW),(6,.sc (.slice none 0 0))],[]⟩ rfl rfl ?_
   refine AWP.seq ?_
   refine AWP.rg (.cons (.assign (l1 rfl) (.const _ _ _))<| .nil _ _ _) ?_
   refine AWP.vs ⟨[(0,rW β1 a0 e63),(1,rW β2 a1 eW),(6,.sc (.slice none 0 0)),(7,iW (0 : Int))],[]⟩ rfl rfl ?_
   refine AWP.seq ?_
   refine AWP.seq ?_
   refine AWP.rg (.cons (.assign (l1 rfl) (.const _ _ _))<| .nil _ _ _) ?_
   refine AWP.vs ⟨[(0,rW β1 a0 e63),(1,rW β2 a1 eW),(6,.sc (.slice none 0 0)),(7,iW (0 : Int)),(8,iW (0 : Int))],[]⟩ rfl rfl ?_
   refine AWP.joinB' (S := fun p_28 : (List Int) => ⟨[(6,.own 1 1 0 p_28.length)],[(1,⟨3,true,p_28.flatMap eW⟩)]⟩) h (fun p_28 h => ?_) (fun k_29 h => ?_)
   ·refine AWP.seq ?_
    refine AWP.rg (.cons (.move (l1 rfl) (.t rfl))<| .cons (.assign (l1 rfl) (.t rfl))<| .cons (.assign (l1 rfl) (.const _ _ _))<| .nil _ _ _) ?_
    refine AWP.ret ?_
    obtain rfl := Option.some.inj h
    refine retJ (Res.vc (s' := ⟨[(4,rW false p_28 eW),(5,iW (0 : Int))],[]⟩) (VC.trans (VC.frz (d := 4) (t := 1) rfl rfl (encI_len .i64)) (VC.sub (.of rfl) (.n _))) ?_)
    refine Res.drop (H := []) rfl ?_
    exact Res.of rfl (.cons (.tmp rfl) (.cons (.tmp rfl) (.nil))) rfl rfl
   ·refine AWP.vc (VC.nilOwn (d := 6) (t := 1) (sz := 1) (E := 3) rfl (nm rfl)) ?_
    refine AWP.vs ⟨[(0,rW β1 a0 e63),(1,rW β2 a1 eW),(6,.own 1 1 0 ([] : List Int).length),(7,iW (0 : Int)),(8,iW (0 : Int))],[(1,⟨3,true,([] : List Int).flatMap eW⟩)]⟩ rfl rfl ?_
    refine AWP.loopM (S := fun x_19 : Int × Int × (List Int) => ⟨[(0,rW β1 a0 e63),(1,rW β2 a1 eW),(6,.own 1 1 0 x_19.2.2.length),(7,iW x_19.1),(8,iW x_19.2.1)],[(1,⟨3,true,x_19.2.2.flatMap eW⟩)]⟩) (x := ((0 : Int),(0 : Int),([] : List Int))) (fun nx_20 x_19 h => ?_) h
    unfold m59_L1 at h
    refine AWP.seq ?_
    refine AWP.seq ?_
    refine AWP.rg (.cons (.move (l1 rfl) (.t rfl))<| .cons (.move (l1 rfl) (.t rfl))<| .cons (.lenRd (l1 rfl) (.t rfl) Tryz.underlying23)<| .cons (.lss (l1 rfl) (.t rfl) (.t rfl))<| .nil _ _ _) ?_
    refine AWP.vs ⟨[(0,rW β1 a0 e63),(1,rW β2 a1 eW),(6,.own 1 1 0 x_19.2.2.length),(7,iW x_19.1),(8,iW x_19.2.1),(21,bW (decide (x_19.2.1 < (a1.length : Int))))],[(1,⟨3,true,x_19.2.2.flatMap eW⟩)]⟩ rfl rfl ?_
    refine AWP.cond (.t rfl) (fun hc => ?_) (fun hc => ?_)
    ·have h := iteT hc h
     refine AWP.skip ?_
     refine AWP.seq ?_
     refine AWP.block ?_
     refine AWP.seq ?_
     obtain ⟨y_21,hy_21,h⟩ := bindS h
     obtain ⟨y_22,hy_22,h⟩ := bindS h
     obtain ⟨y_23,hy_23,h⟩ := bindS h
     obtain ⟨y_24,hy_24,h⟩ := bindS h
     obtain ⟨t7_25,ht7_25,h⟩ := letS h
     refine AWP.dw mixed [(0,rW β1 a0 e63),(1,rW β2 a1 eW),(6,.own 1 1 0 x_19.2.2.length),(7,iW x_19.1),(8,iW x_19.2.1),(21,bW (decide (x_19.2.1 < (a1.length : Int))))] [(3,[19])] [dO [3] 24 (iW x_19.1),dO [0] 25 (rW β1 a0 e63),dO [1] 26 (rW β2 a1 eW),dO [4] 27 (iW x_19.2.1),dO [8,9] 28 (.rptr β2 [iW y_21]),dO [10] 29 (iW y_21),dO [7,11] 30 (.rptr β1 [iW y_22.Rl,iW y_22.Ln,iW y_22.Due]),dO [12] 31 (.rptr β1 [iW y_22.Rl,iW y_22.Ln,iW y_22.Due]),dO [13] 32 (iW y_22.Rl),dO [6,14] 33 (iW (if y_22.Rl > x_19.1 then y_22.Rl else x_19.1)),dO [0] 34 (rW β1 a0 e63),dO [1] 35 (rW β2 a1 eW),dO [4] 36 (iW x_19.2.1),dO [17,18] 37 (.rptr β2 [iW y_23]),dO [19] 38 (iW y_23),dO [16,20] 39 (.rptr β1 [iW y_24.Rl,iW y_24.Ln,iW y_24.Due]),dO [21] 40 (.rptr β1 [iW y_24.Ln,iW y_24.Due]),dO [22] 41 (iW y_24.Ln),dO [15,23] 42 (iW (IntKind.wrap .i64 ((if y_22.Rl > x_19.1 then y_22.Rl else x_19.1) + y_24.Ln))),dO [24] 7 (iW (IntKind.wrap .i64 ((if y_22.Rl > x_19.1 then y_22.Rl else x_19.1) + y_24.Ln)))] [] [[(1,⟨3,true,x_19.2.2.flatMap eW⟩)]] [[],[],[],[],[2,4],[2,5],[1,6],[1,7],[1,8],[0,9],[],[],[],[11,13],[11,14],[10,15],[10,16],[10,17],[0,18],[0,19]] [0,1,2,25,4] rfl rfl (by kernel_rfl) rfl (.p rfl (fun _ q _ => .move (l1 rfl) (q.t 0 rfl))<| .p rfl (fun _ q _ => .move (l1 rfl) (q.t 0 rfl))<| .p rfl (fun _ q _ => .move (l1 rfl) (q.t 0 rfl))<| .p rfl (fun _ q _ => .move (l1 rfl) (q.t 0 rfl))<| .p rfl (fun _ q _ => .indexRd (enc := eW) (l1 rfl) (q.t 0 rfl) (q.t 1 rfl) Tryz.underlying23 sz3 (encI_len .i64) rfl hy_21)<| .p rfl (fun _ q _ => .loadR (v := iW y_21) (l1 rfl) (q.t 0 rfl) one3 rfl)<| .p rfl (fun _ q _ => .indexRd (enc := e63) (l1 rfl) (q.t 0 rfl) (q.t 1 rfl) Tryz.underlying22 sz79 encR63_len rfl hy_22)<| .p rfl (fun _ q _ => .fieldR (l1 rfl) (q.t 0 rfl) fld79_0 rfl)<| .p rfl (fun _ q _ => .loadR (v := iW y_22.Rl) (l1 rfl) (q.t 0 rfl) one3 rfl)<| .p rfl (fun _ q _ => .max2 (l1 rfl) (q.t 0 rfl) (q.t 1 rfl))<| .p rfl (fun _ q _ => .move (l1 rfl) (q.t 0 rfl))<| .p rfl (fun _ q _ => .move (l1 rfl) (q.t 0 rfl))<| .p rfl (fun _ q _ => .move (l1 rfl) (q.t 0 rfl))<| .p rfl (fun _ q _ => .indexRd (enc := eW) (l1 rfl) (q.t 0 rfl) (q.t 1 rfl) Tryz.underlying23 sz3 (encI_len .i64) rfl hy_23)<| .p rfl (fun _ q _ => .loadR (v := iW y_23) (l1 rfl) (q.t 0 rfl) one3 rfl)<| .p rfl (fun _ q _ => .indexRd (enc := e63) (l1 rfl) (q.t 0 rfl) (q.t 1 rfl) Tryz.underlying22 sz79 encR63_len rfl hy_24)<| .p rfl (fun _ q _ => .fieldR (l1 rfl) (q.t 0 rfl) fld79_1 rfl)<| .p rfl (fun _ q _ => .loadR (v := iW y_24.Ln) (l1 rfl) (q.t 0 rfl) one3 rfl)<| .p rfl (fun _ q _ => .add (l1 rfl) (q.t 0 rfl) (q.t 1 rfl))<| .p rfl (fun _ q _ => .assign (l1 rfl) (q.t 0 rfl))<| .nil _) rfl rfl ?_
     refine AWP.vc (s' := ⟨[(0,rW β1 a0 e63),(1,rW β2 a1 eW),(6,.own 1 1 0 x_19.2.2.length),(7,iW t7_25),(8,iW x_19.2.1)],[(1,⟨3,true,x_19.2.2.flatMap eW⟩)]⟩) (by subst ht7_25; exact VC.sub (.of rfl) (.of rfl)) ?_
     obtain ⟨l1_26,hl1_26,h⟩ := bindS h
     refine AWP.rg (.cons (.move (l1 rfl) (.t rfl))<| .cons (.move (l1 rfl) (.t rfl))<| .cons (.buildSlice (t := 2) (out := ([t7_25] : List Int).flatMap eW) (l1 rfl) (nm rfl) (.cons (.t rfl) (by first | exact ⟨rfl,rfl⟩ | rfl) (.nil)) Tryz.underlying23 zero3 el3 (by decide) (by decide) rfl (still_all (encI_still .i64) _))<| .cons (.app (enc := eW) (l1 rfl) (nm rfl) (.t rfl) (Src.own (.t rfl) rfl (lendAll (encI_len .i64) _) (flatMap_length (encI_len .i64) _) (one_all (encI_one .i64) _) (.inl rfl)) Tryz.underlying23 ⟨_,Tryz.underlying23,by intro k hk; cases hk⟩ el3 rfl (encI_len .i64) rfl rfl (by decide) hl1_26)<| .cons (.assign (l1 rfl) (.t rfl))<| .nil _ _ _) ?_
     refine AWP.vs ⟨[(0,rW β1 a0 e63),(1,rW β2 a1 eW),(6,.own 1 1 0 l1_26.length),(7,iW t7_25),(8,iW x_19.2.1)],[(1,⟨3,true,l1_26.flatMap eW⟩)]⟩ rfl rfl ?_
     obtain ⟨t8_27,ht8_27,h⟩ := letS h
     refine AWP.rg (.cons (.move (l1 rfl) (.t rfl))<| .cons (.add (l1 rfl) (.t rfl) (.const _ _ _))<| .cons (.assign (l1 rfl) (.t rfl))<| .nil _ _ _) ?_
     exact endJ (t7_25,t8_27,l1_26) h (by subst ht8_27; exact VC.sub (.of rfl) (.of rfl))
    ·have h := iteF hc h
     refine AWP.exit ?_
     exact endJ x_19.2.2 h (VC.sub (.of rfl) (.of rfl))
theorem c37 {β1 : Bool} {β2 : Bool} (n : Nat) (a0 : (List R63)) (a1 : (List Int)) {r : (Int × Int)} (h : m37 n a0 a1 = some r) : Spec Tryz.prog 37 [] [rW β1 a0 e63,rW β2 a1 eW] [] (.tup [iW r.1,iW r.2]) [] := by
 refine Spec.of (fn := Tryz.f37) Tryz.func37 Tryz.ntmps37 rfl rfl (le1 rfl) (fun w0 Zs Zb T0 ι0 => ?_)
 unfold m37 at h
 refine AWP.seq ?_
 refine AWP.rg (.cons (.assign (l1 rfl) (.const _ _ _))<| .cons (.assign (l1 rfl) (.const _ _ _))<| .nil _ _ _) ?_
 refine AWP.vs ⟨[(0,rW β1 a0 e63),(1,rW β2 a1 eW)],[]⟩ rfl rfl ?_
 refine AWP.seq ?_
 obtain ⟨y_1,hy_1,h⟩ := bindS h
 refine AWP.rg (.cons (.move (l1 rfl) (.t rfl))<| .cons (.move (l1 rfl) (.t rfl))<| .cons (.call0 (bw := false) (l1 rfl) (c59 (β1 := β1) (β2 := β2) n a0 a1 hy_1) (.cons (.t rfl) (.ren rfl) (.cons (.t rfl) (.ren rfl) (.nil))) rfl)<| .cons (.move (l1 rfl) (.t rfl))<| .cons (.extract (l1 rfl) (.t rfl) rfl)<| .cons (.extract (l1 rfl) (.t rfl) rfl)<| .cons (.assign (l1 rfl) (.t rfl))<| .cons (.assign (l1 rfl) (.t rfl))<| .nil _ _ _) ?_
 refine AWP.vs ⟨[(0,rW β1 a0 e63),(1,rW β2 a1 eW),(6,rW false y_1.1 eW),(7,iW y_1.2)],[]⟩ rfl rfl ?_
 refine AWP.seq ?_
 refine AWP.rg (.cons (.assign (l1 rfl) (.const _ _ _))<| .nil _ _ _) ?_
 refine AWP.vs ⟨[(0,rW β1 a0 e63),(1,rW β2 a1 eW),(6,rW false y_1.1 eW),(7,iW y_1.2),(8,iW (0 : Int))],[]⟩ rfl rfl ?_
 refine AWP.seq ?_
 refine AWP.seq ?_
 refine AWP.rg (.cons (.assign (l1 rfl) (.const _ _ _))<| .nil _ _ _) ?_
 refine AWP.vs ⟨[(0,rW β1 a0 e63),(1,rW β2 a1 eW),(6,rW false y_1.1 eW),(7,iW y_1.2),(8,iW (0 : Int)),(9,iW (0 : Int))],[]⟩ rfl rfl ?_
 refine AWP.joinB' (S := fun p_21 : Int => ⟨[(7,iW y_1.2),(8,iW p_21)],[]⟩) h (fun p_21 h => ?_) (fun k_22 h => ?_)
 ·refine AWP.seq ?_
  refine AWP.rg (.cons (.move (l1 rfl) (.t rfl))<| .cons (.move (l1 rfl) (.t rfl))<| .cons (.assign (l1 rfl) (.t rfl))<| .cons (.assign (l1 rfl) (.t rfl))<| .nil _ _ _) ?_
  refine AWP.ret ?_
  obtain rfl := Option.some.inj h
  refine retJ (Res.vc (s' := ⟨[(4,iW p_21),(5,iW y_1.2)],[]⟩) (VC.sub (.of rfl) (.n _)) ?_)
  refine Res.drop (H := []) rfl ?_
  exact Res.of rfl (.cons (.tmp rfl) (.cons (.tmp rfl) (.nil))) rfl rfl
 ·refine AWP.vs ⟨[(0,rW β1 a0 e63),(1,rW β2 a1 eW),(6,rW false y_1.1 eW),(7,iW y_1.2),(8,iW (0 : Int)),(9,iW (0 : Int))],[]⟩ rfl rfl ?_
  refine AWP.loopM (S := fun x_14 : Int × Int => ⟨[(0,rW β1 a0 e63),(1,rW β2 a1 eW),(6,rW false y_1.1 eW),(7,iW y_1.2),(8,iW x_14.1),(9,iW x_14.2)],[]⟩) (x := ((0 : Int),(0 : Int))) (fun nx_15 x_14 h => ?_) h
  unfold m37_L1 at h
  refine AWP.seq ?_
  refine AWP.seq ?_
  refine AWP.rg (.cons (.move (l1 rfl) (.t rfl))<| .cons (.move (l1 rfl) (.t rfl))<| .cons (.lenRd (l1 rfl) (.t rfl) Tryz.underlying23)<| .cons (.lss (l1 rfl) (.t rfl) (.t rfl))<| .nil _ _ _) ?_
  refine AWP.vs ⟨[(0,rW β1 a0 e63),(1,rW β2 a1 eW),(6,rW false y_1.1 eW),(7,iW y_1.2),(8,iW x_14.1),(9,iW x_14.2),(19,bW (decide (x_14.2 < (y_1.1.length : Int))))],[]⟩ rfl rfl ?_
  refine AWP.cond (.t rfl) (fun hc => ?_) (fun hc => ?_)
  ·have h := iteT hc h
   refine AWP.skip ?_
   refine AWP.seq ?_
   refine AWP.block ?_
   obtain ⟨y_16,hy_16,h⟩ := bindS h
   obtain ⟨y_17,hy_17,h⟩ := bindS h
   obtain ⟨y_18,hy_18,h⟩ := bindS h
   obtain ⟨t8_19,ht8_19,h⟩ := letS h
   refine AWP.dw mixed [(0,rW β1 a0 e63),(1,rW β2 a1 eW),(6,rW false y_1.1 eW),(7,iW y_1.2),(8,iW x_14.1),(9,iW x_14.2),(19,bW (decide (x_14.2 < (y_1.1.length : Int))))] [(4,[16])] [dO [4] 22 (iW x_14.1),dO [2] 23 (rW false y_1.1 eW),dO [5] 24 (iW x_14.2),dO [8,9] 25 (.rptr false [iW y_16]),dO [10] 26 (iW y_16),dO [0] 27 (rW β1 a0 e63),dO [1] 28 (rW β2 a1 eW),dO [5] 29 (iW x_14.2),dO [13,14] 30 (.rptr β2 [iW y_17]),dO [15] 31 (iW y_17),dO [12,16] 32 (.rptr β1 [iW y_18.Rl,iW y_18.Ln,iW y_18.Due]),dO [17] 33 (.rptr β1 [iW y_18.Due]),dO [18] 34 (iW y_18.Due),dO [11,19] 35 (iW (IntKind.wrap .i64 (y_16 - y_18.Due))),dO [20] 36 (iW (if (IntKind.wrap .i64 (y_16 - y_18.Due)) > (0 : Int) then (IntKind.wrap .i64 (y_16 - y_18.Due)) else (0 : Int))),dO [7,21] 37 (iW (IntKind.wrap .i64 (x_14.1 + (if (IntKind.wrap .i64 (y_16 - y_18.Due)) > (0 : Int) then (IntKind.wrap .i64 (y_16 - y_18.Due)) else (0 : Int))))),dO [22] 8 (iW (IntKind.wrap .i64 (x_14.1 + (if (IntKind.wrap .i64 (y_16 - y_18.Due)) > (0 : Int) then (IntKind.wrap .i64 (y_16 - y_18.Due)) else (0 : Int)))))] [] [[]] [[],[],[],[1,3],[1,4],[],[],[],[6,8],[6,9],[5,10],[5,11],[5,12],[1,13],[1,14],[0,15],[0,16]] [0,1,2,3,23,5] rfl rfl (by kernel_rfl) rfl (.p rfl (fun _ q _ => .move (l1 rfl) (q.t 0 rfl))<| .p rfl (fun _ q _ => .move (l1 rfl) (q.t 0 rfl))<| .p rfl (fun _ q _ => .move (l1 rfl) (q.t 0 rfl))<| .p rfl (fun _ q _ => .indexRd (enc := eW) (l1 rfl) (q.t 0 rfl) (q.t 1 rfl) Tryz.underlying23 sz3 (encI_len .i64) rfl hy_16)<| .p rfl (fun _ q _ => .loadR (v := iW y_16) (l1 rfl) (q.t 0 rfl) one3 rfl)<| .p rfl (fun _ q _ => .move (l1 rfl) (q.t 0 rfl))<| .p rfl (fun _ q _ => .move (l1 rfl) (q.t 0 rfl))<| .p rfl (fun _ q _ => .move (l1 rfl) (q.t 0 rfl))<| .p rfl (fun _ q _ => .indexRd (enc := eW) (l1 rfl) (q.t 0 rfl) (q.t 1 rfl) Tryz.underlying23 sz3 (encI_len .i64) rfl hy_17)<| .p rfl (fun _ q _ => .loadR (v := iW y_17) (l1 rfl) (q.t 0 rfl) one3 rfl)<| .p rfl (fun _ q _ => .indexRd (enc := e63) (l1 rfl) (q.t 0 rfl) (q.t 1 rfl) Tryz.underlying22 sz79 encR63_len rfl hy_18)<| .p rfl (fun _ q _ => .fieldR (l1 rfl) (q.t 0 rfl) fld79_2 rfl)<| .p rfl (fun _ q _ => .loadR (v := iW y_18.Due) (l1 rfl) (q.t 0 rfl) one3 rfl)<| .p rfl (fun _ q _ => .sub (l1 rfl) (q.t 0 rfl) (q.t 1 rfl))<| .p rfl (fun _ q _ => .max2 (l1 rfl) (.const _ _ _) (q.t 0 rfl))<| .p rfl (fun _ q _ => .add (l1 rfl) (q.t 0 rfl) (q.t 1 rfl))<| .p rfl (fun _ q _ => .assign (l1 rfl) (q.t 0 rfl))<| .nil _) rfl rfl ?_
   refine AWP.vc (s' := ⟨[(0,rW β1 a0 e63),(1,rW β2 a1 eW),(6,rW false y_1.1 eW),(7,iW y_1.2),(8,iW t8_19),(9,iW x_14.2)],[]⟩) (by subst ht8_19; exact VC.sub (.of rfl) (.n _)) ?_
   obtain ⟨t9_20,ht9_20,h⟩ := letS h
   refine AWP.rg (.cons (.move (l1 rfl) (.t rfl))<| .cons (.add (l1 rfl) (.t rfl) (.const _ _ _))<| .cons (.assign (l1 rfl) (.t rfl))<| .nil _ _ _) ?_
   exact endJ (t8_19,t9_20) h (by subst ht9_20; exact VC.sub (.of rfl) (.n _))
  ·have h := iteF hc h
   refine AWP.exit ?_
   exact endJ x_14.1 h (VC.sub (.of rfl) (.n _))
theorem c88 {β1 : Bool} (n : Nat) (a0 : (List R63)) {r : ((List Int) × Int)} (h : m88 n a0 = some r) : Spec Tryz.prog 88 [] [rW β1 a0 e63] [] (.tup [rW false r.1 eW,iW r.2]) [] := by
 refine Spec.of (fn := Tryz.f88) Tryz.func88 Tryz.ntmps88 rfl rfl (le1 rfl) (fun w0 Zs Zb T0 ι0 => ?_)
 unfold m88 at h
 refine AWP.seq ?_
 refine AWP.rg (.cons (.assign (l1 rfl) (.const _ _ _))<| .cons (.assign (l1 rfl) (.const _ _ _))<| .nil _ _ _) ?_
 refine AWP.vs ⟨[(0,rW β1 a0 e63)],[]⟩ rfl rfl ?_
 refine AWP.seq ?_
 refine AWP.seq ?_
 obtain ⟨y_1,hy_1,h⟩ := bindS h
 refine AWP.rg (.cons (.move (l1 rfl) (.t rfl))<| .cons (.call0 (bw := false) (l1 rfl) (c19 (β1 := β1) n a0 hy_1) (.cons (.t rfl) (.ren rfl) (.nil)) rfl)<| .cons (.not (l1 rfl) (.t rfl))<| .nil _ _ _) ?_
 refine AWP.vs ⟨[(0,rW β1 a0 e63),(13,bW (!y_1))],[]⟩ rfl rfl ?_
 refine AWP.cond (.t rfl) (fun hc => ?_) (fun hc => ?_)
 ·have h := iteT hc h
  refine AWP.seq ?_
  refine AWP.rg (.cons (.assign (l1 rfl) (.const _ _ _))<| .cons (.assign (l1 rfl) (.const _ _ _))<| .nil _ _ _) ?_
  refine AWP.ret ?_
  obtain rfl := Option.some.inj h
  refine retJ (Res.vc (s' := ⟨[(2,rW false ([] : List Int) eW),(3,iW (1 : Int))],[]⟩) (VC.trans (VC.nilRd (d := 2) false rfl) (VC.sub (.of rfl) (.n _))) ?_)
  refine Res.drop (H := []) rfl ?_
  exact Res.of rfl (.cons (.tmp rfl) (.cons (.tmp rfl) (.nil))) rfl rfl
 ·have h := iteF hc h
  refine AWP.skip ?_
  refine AWP.seq ?_
  refine AWP.rg (.cons (.assign (l1 rfl) (.const _ _ _))<| .cons (.assign (l1 rfl) (.const _ _ _))<| .nil _ _ _) ?_
  refine AWP.vs ⟨[(0,rW β1 a0 e63),(4,.sc (.slice none 0 0)),(5,.sc (.slice none 0 0))],[]⟩ rfl rfl ?_
  refine AWP.seq ?_
  refine AWP.seq ?_
  refine AWP.rg (.cons (.assign (l1 rfl) (.const _ _ _))<| .nil _ _ _) ?_
  refine AWP.vs ⟨[(0,rW β1 a0 e63),(4,.sc (.slice none 0 0)),(5,.sc (.slice none 0 0)),(6,iW (0 : Int))],[]⟩ rfl rfl ?_
  refine AWP.joinB' (S := fun p_15 : (List Int) => ⟨[(0,rW β1 a0 e63),(4,.own 1 1 0 p_15.length),(5,.sc (.slice none 0 0))],[(1,⟨3,true,p_15.flatMap eW⟩)]⟩) h (fun p_15 h => ?_) (fun k_16 h => ?_)
  ·refine AWP.seq ?_
   refine AWP.rg (.cons (.assign (l1 rfl) (.const _ _ _))<| .nil _ _ _) ?_
   refine AWP.vs ⟨[(0,rW β1 a0 e63),(4,.own 1 1 0 p_15.length),(5,.sc (.slice none 0 0)),(7,iW (0 : Int))],[(1,⟨3,true,p_15.flatMap eW⟩)]⟩ rfl rfl ?_
   refine AWP.seq ?_
   refine AWP.joinB' (S := fun p_213 : (List Int) => ⟨[(5,.own 3 1 0 p_213.length)],[(3,⟨3,true,p_213.flatMap eW⟩)]⟩) h (fun p_213 h => ?_) (fun k_214 h => ?_)
   ·refine AWP.seq ?_
    refine AWP.rg (.cons (.move (l1 rfl) (.t rfl))<| .cons (.assign (l1 rfl) (.t rfl))<| .cons (.assign (l1 rfl) (.const _ _ _))<| .nil _ _ _) ?_
    refine AWP.ret ?_
    obtain rfl := Option.some.inj h
    refine retJ (Res.vc (s' := ⟨[(2,rW false p_213 eW),(3,iW (0 : Int))],[]⟩) (VC.trans (VC.frz (d := 2) (t := 3) rfl rfl (encI_len .i64)) (VC.sub (.of rfl) (.n _))) ?_)
    refine Res.drop (H := []) rfl ?_
    exact Res.of rfl (.cons (.tmp rfl) (.cons (.tmp rfl) (.nil))) rfl rfl
   ·refine AWP.vc (VC.nilOwn (d := 5) (t := 3) (sz := 1) (E := 3) rfl (nm rfl)) ?_
    refine AWP.vs ⟨[(0,rW β1 a0 e63),(4,.own 1 1 0 p_15.length),(5,.own 3 1 0 ([] : List Int).length),(7,iW (0 : Int))],[(1,⟨3,true,p_15.flatMap eW⟩),(3,⟨3,true,([] : List Int).flatMap eW⟩)]⟩ rfl rfl ?_
    refine AWP.loopM (S := fun x_147 : Int × (List Int) × (List Int) => ⟨[(0,rW β1 a0 e63),(4,.own 1 1 0 x_147.2.1.length),(5,.own 3 1 0 x_147.2.2.length),(7,iW x_147.1)],[(1,⟨3,true,x_147.2.1.flatMap eW⟩),(3,⟨3,true,x_147.2.2.flatMap eW⟩)]⟩) (x := ((0 : Int),p_15,([] : List Int))) (fun nx_148 x_147 h => ?_) h
    unfold m88_L4 at h
    refine AWP.seq ?_
    refine AWP.seq ?_
    refine AWP.rg (.cons (.move (l1 rfl) (.t rfl))<| .cons (.lenOwn (l1 rfl) (.t rfl) Tryz.underlying23)<| .cons (.move (l1 rfl) (.t rfl))<| .cons (.lenRd (l1 rfl) (.t rfl) Tryz.underlying22)<| .cons (.lss (l1 rfl) (.t rfl) (.t rfl))<| .nil _ _ _) ?_
    refine AWP.vs ⟨[(0,rW β1 a0 e63),(4,.own 1 1 0 x_147.2.1.length),(5,.own 3 1 0 x_147.2.2.length),(7,iW x_147.1),(32,bW (decide ((x_147.2.2.length : Int) < (a0.length : Int))))],[(1,⟨3,true,x_147.2.1.flatMap eW⟩),(3,⟨3,true,x_147.2.2.flatMap eW⟩)]⟩ rfl rfl ?_
    refine AWP.cond (.t rfl) (fun hc => ?_) (fun hc => ?_)
    ·have h := iteT hc h
     refine AWP.skip ?_
     refine AWP.block ?_
     refine AWP.seq ?_
     refine AWP.rg (.cons (.assign (l1 rfl) (.const _ _ _))<| .cons (.assign (l1 rfl) (.const _ _ _))<| .nil _ _ _) ?_
     refine AWP.vs ⟨[(0,rW β1 a0 e63),(4,.own 1 1 0 x_147.2.1.length),(5,.own 3 1 0 x_147.2.2.length),(7,iW x_147.1),(8,iW (-1 : Int)),(9,iW (-1 : Int))],[(1,⟨3,true,x_147.2.1.flatMap eW⟩),(3,⟨3,true,x_147.2.2.flatMap eW⟩)]⟩ rfl rfl ?_
     refine AWP.seq ?_
     refine AWP.seq ?_
     refine AWP.rg (.cons (.assign (l1 rfl) (.const _ _ _))<| .nil _ _ _) ?_
     refine AWP.vs ⟨[(0,rW β1 a0 e63),(4,.own 1 1 0 x_147.2.1.length),(5,.own 3 1 0 x_147.2.2.length),(7,iW x_147.1),(8,iW (-1 : Int)),(9,iW (-1 : Int)),(10,iW (0 : Int))],[(1,⟨3,true,x_147.2.1.flatMap eW⟩),(3,⟨3,true,x_147.2.2.flatMap eW⟩)]⟩ rfl rfl ?_
     refine AWP.joinB' (S := fun p_198 : Int × Int => ⟨[(0,rW β1 a0 e63),(4,.own 1 1 0 x_147.2.1.length),(5,.own 3 1 0 x_147.2.2.length),(7,iW x_147.1),(8,iW p_198.1),(9,iW p_198.2)],[(1,⟨3,true,x_147.2.1.flatMap eW⟩),(3,⟨3,true,x_147.2.2.flatMap eW⟩)]⟩) h (fun p_198 h => ?_) (fun k_199 h => ?_)
     ·refine AWP.block ?_
      refine AWP.seq ?_
      refine AWP.rg (.cons (.move (l1 rfl) (.t rfl))<| .cons (.lss (l1 rfl) (.t rfl) (.const _ _ _))<| .cons (.assign (l1 rfl) (.t rfl))<| .nil _ _ _) ?_
      refine AWP.vs ⟨[(0,rW β1 a0 e63),(4,.own 1 1 0 x_147.2.1.length),(5,.own 3 1 0 x_147.2.2.length),(7,iW x_147.1),(8,iW p_198.1),(9,iW p_198.2),(97,bW (decide (p_198.1 < (0 : Int))))],[(1,⟨3,true,x_147.2.1.flatMap eW⟩),(3,⟨3,true,x_147.2.2.flatMap eW⟩)]⟩ rfl rfl ?_
      refine AWP.join' (S := fun p_211 : Int × (List Int) × (List Int) => ⟨[(0,rW β1 a0 e63),(4,.own 1 1 0 p_211.2.1.length),(5,.own 3 1 0 p_211.2.2.length),(7,iW p_211.1)],[(1,⟨3,true,p_211.2.1.flatMap eW⟩),(3,⟨3,true,p_211.2.2.flatMap eW⟩)]⟩) h (fun p_211 h => ?_) (fun k_212 h => ?_)
      ·exact endJ (p_211.1,p_211.2.1,p_211.2.2) h (VC.sub (.of rfl) (.of rfl))
      ·refine AWP.cond (.t rfl) (fun hc => ?_) (fun hc => ?_)
       ·have h := iteT hc h
        refine AWP.rg (.cons (.move (l1 rfl) (.t rfl))<| .cons (.assign (l1 rfl) (.t rfl))<| .nil _ _ _) ?_
        exact endJ (p_198.2,x_147.2.1,x_147.2.2) h (VC.sub (.of rfl) (.of rfl))
       ·have h := iteF hc h
        refine AWP.seq ?_
        obtain ⟨y_200,hy_200,h⟩ := bindS h
        refine AWP.rg (.cons (.move (l1 rfl) (.t rfl))<| .cons (.geq (l1 rfl) (.t rfl) (.const _ _ _))<| .cons (.move (l1 rfl) (.t rfl))<| .guard (j := 2) (dj := 104) rfl (l1 rfl) rfl (l1 rfl) (fun hg => .move (l1 rfl) (.t rfl))<| .guard (j := 2) (dj := 104) rfl (l1 rfl) rfl (l1 rfl) (fun hg => .move (l1 rfl) (.t rfl))<| .guard (j := 2) (dj := 104) rfl (l1 rfl) rfl (l1 rfl) (fun hg => .move (l1 rfl) (.t rfl))<| .guard (j := 2) (dj := 104) rfl (l1 rfl) rfl (l1 rfl) (fun hg => .move (l1 rfl) (.t rfl))<| .guard (j := 2) (dj := 104) rfl (l1 rfl) rfl (l1 rfl) (fun hg => .idxOwn (l1 rfl) (.gd hg (.t rfl)) (.gd hg (.t rfl)) Tryz.underlying23 sz3 rfl (gdB hy_200 hg))<| .guard (j := 2) (dj := 104) rfl (l1 rfl) rfl (l1 rfl) (fun hg => .loadP (l1 rfl) (.gd hg (.t rfl)) one3 rfl (cell_at1 (encI_len .i64) (gdB hy_200 hg)) rfl)<| .guard (j := 2) (dj := 104) rfl (l1 rfl) rfl (l1 rfl) (fun hg => .add (l1 rfl) (.gd hg (.t rfl)) (.gd hg (.t rfl)))<| .guard (j := 2) (dj := 104) rfl (l1 rfl) rfl (l1 rfl) (fun hg => .lss (l1 rfl) (.gd hg (.t rfl)) (.gd hg (.t rfl)))<| .cons (.pickAnd (l1 rfl) (.t rfl) (.t rfl) (.const _ _ _))<| .cons (.assign (l1 rfl) (.t rfl))<| .nil _ _ _) ?_
        refine AWP.vs ⟨[(0,rW β1 a0 e63),(4,.own 1 1 0 x_147.2.1.length),(5,.own 3 1 0 x_147.2.2.length),(7,iW x_147.1),(8,iW p_198.1),(9,iW p_198.2),(101,bW ((decide ((0 : Int) ≤ p_198.2)) && (decide (p_198.2 < (IntKind.wrap .i64 (x_147.1 + y_200))))))],[(1,⟨3,true,x_147.2.1.flatMap eW⟩),(3,⟨3,true,x_147.2.2.flatMap eW⟩)]⟩ rfl rfl ?_
        refine AWP.join' (S := fun p_209 : Int × (List Int) × (List Int) => ⟨[(0,rW β1 a0 e63),(4,.own 1 1 0 p_209.2.1.length),(5,.own 3 1 0 p_209.2.2.length),(7,iW p_209.1)],[(1,⟨3,true,p_209.2.1.flatMap eW⟩),(3,⟨3,true,p_209.2.2.flatMap eW⟩)]⟩) h (fun p_209 h => ?_) (fun k_210 h => ?_)
        ·exact endJ (p_209.1,p_209.2.1,p_209.2.2) h (VC.sub (.of rfl) (.of rfl))
        ·refine AWP.cond (.t rfl) (fun hc => ?_) (fun hc => ?_)
         ·have h := iteT hc h
          refine AWP.seq ?_
          obtain ⟨y_201,hy_201,h⟩ := bindS h
          obtain ⟨y_202,hy_202,h⟩ := bindS h
          obtain ⟨l1_203,hl1_203,h⟩ := bindS h
          refine AWP.rg (.cons (.move (l1 rfl) (.t rfl))<| .cons (.move (l1 rfl) (.t rfl))<| .cons (.idxOwn (l1 rfl) (.t rfl) (.t rfl) Tryz.underlying23 sz3 rfl hy_201)<| .cons (.loadP (l1 rfl) (.t rfl) one3 rfl (cell_at1 (encI_len .i64) hy_201) rfl)<| .cons (.move (l1 rfl) (.t rfl))<| .cons (.move (l1 rfl) (.t rfl))<| .cons (.sub (l1 rfl) (.t rfl) (.t rfl))<| .cons (.sub (l1 rfl) (.t rfl) (.t rfl))<| .cons (.idxOwn (l1 rfl) (.t rfl) (.t rfl) Tryz.underlying23 sz3 rfl hy_202)<| .cons (.storeP (.t rfl) (.t rfl) sz3 rfl (lt_at1 (encI_len .i64) hy_202) rfl (fun _ => rfl) (set_at1 (encI_len .i64) hl1_203 rfl))<| .nil _ _ _) ?_
          refine AWP.vc (s' := ⟨[(0,rW β1 a0 e63),(4,.own 1 1 0 l1_203.length),(5,.own 3 1 0 x_147.2.2.length),(9,iW p_198.2)],[(1,⟨3,true,l1_203.flatMap eW⟩),(3,⟨3,true,x_147.2.2.flatMap eW⟩)]⟩) (VC.sub (.c rfl<| .c (lenC (Eq.symm (setLen hl1_203)) rfl)<| .c rfl<| .c rfl<| .n _) (.of rfl)) ?_
          refine AWP.rg (.cons (.move (l1 rfl) (.t rfl))<| .cons (.assign (l1 rfl) (.t rfl))<| .nil _ _ _) ?_
          exact endJ (p_198.2,l1_203,x_147.2.2) h (VC.sub (.of rfl) (.of rfl))
         ·have h := iteF hc h
          refine AWP.seq ?_
          obtain ⟨y_204,hy_204,h⟩ := bindS h
          obtain ⟨t7_205,ht7_205,h⟩ := letS h
          refine AWP.rg (.cons (.move (l1 rfl) (.t rfl))<| .cons (.move (l1 rfl) (.t rfl))<| .cons (.move (l1 rfl) (.t rfl))<| .cons (.idxOwn (l1 rfl) (.t rfl) (.t rfl) Tryz.underlying23 sz3 rfl hy_204)<| .cons (.loadP (l1 rfl) (.t rfl) one3 rfl (cell_at1 (encI_len .i64) hy_204) rfl)<| .cons (.add (l1 rfl) (.t rfl) (.t rfl))<| .cons (.assign (l1 rfl) (.t rfl))<| .nil _ _ _) ?_
          refine AWP.vc (s' := ⟨[(0,rW β1 a0 e63),(4,.own 1 1 0 x_147.2.1.length),(5,.own 3 1 0 x_147.2.2.length),(7,iW t7_205),(8,iW p_198.1)],[(1,⟨3,true,x_147.2.1.flatMap eW⟩),(3,⟨3,true,x_147.2.2.flatMap eW⟩)]⟩) (by subst ht7_205; exact VC.sub (.of rfl) (.of rfl)) ?_
          refine AWP.seq ?_
          obtain ⟨y_206,hy_206,h⟩ := bindS h
          obtain ⟨l1_207,hl1_207,h⟩ := bindS h
          refine AWP.rg (.cons (.move (l1 rfl) (.t rfl))<| .cons (.move (l1 rfl) (.t rfl))<| .cons (.idxOwn (l1 rfl) (.t rfl) (.t rfl) Tryz.underlying23 sz3 rfl hy_206)<| .cons (.storeP (.t rfl) (.const _ _ _) sz3 rfl (lt_at1 (encI_len .i64) hy_206) rfl (fun _ => rfl) (set_at1 (encI_len .i64) hl1_207 rfl))<| .nil _ _ _) ?_
          refine AWP.vc (s' := ⟨[(0,rW β1 a0 e63),(4,.own 1 1 0 l1_207.length),(5,.own 3 1 0 x_147.2.2.length),(7,iW t7_205)],[(1,⟨3,true,l1_207.flatMap eW⟩),(3,⟨3,true,x_147.2.2.flatMap eW⟩)]⟩) (VC.sub (.c rfl<| .c (lenC (Eq.symm (setLen hl1_207)) rfl)<| .c rfl<| .c rfl<| .n _) (.of rfl)) ?_
          obtain ⟨l3_208,hl3_208,h⟩ := bindS h
          refine AWP.rg (.cons (.move (l1 rfl) (.t rfl))<| .cons (.move (l1 rfl) (.t rfl))<| .cons (.buildSlice (t := 4) (out := ([t7_205] : List Int).flatMap eW) (l1 rfl) (nm rfl) (.cons (.t rfl) (by first | exact ⟨rfl,rfl⟩ | rfl) (.nil)) Tryz.underlying23 zero3 el3 (by decide) (by decide) rfl (still_all (encI_still .i64) _))<| .cons (.app (enc := eW) (l1 rfl) (nm rfl) (.t rfl) (Src.own (.t rfl) rfl (lendAll (encI_len .i64) _) (flatMap_length (encI_len .i64) _) (one_all (encI_one .i64) _) (.inl rfl)) Tryz.underlying23 ⟨_,Tryz.underlying23,by intro k hk; cases hk⟩ el3 rfl (encI_len .i64) rfl rfl (by decide) hl3_208)<| .cons (.assign (l1 rfl) (.t rfl))<| .nil _ _ _) ?_
          exact endJ (t7_205,l1_207,l3_208) h (VC.sub (.of rfl) (.of rfl))
     ·refine AWP.vs ⟨[(0,rW β1 a0 e63),(4,.own 1 1 0 x_147.2.1.length),(5,.own 3 1 0 x_147.2.2.length),(7,iW x_147.1),(8,iW (-1 : Int)),(9,iW (-1 : Int)),(10,iW (0 : Int))],[(1,⟨3,true,x_147.2.1.flatMap eW⟩),(3,⟨3,true,x_147.2.2.flatMap eW⟩)]⟩ rfl rfl ?_
      refine AWP.loopM (S := fun x_181 : Int × Int × Int => ⟨[(0,rW β1 a0 e63),(4,.own 1 1 0 x_147.2.1.length),(5,.own 3 1 0 x_147.2.2.length),(7,iW x_147.1),(8,iW x_181.1),(9,iW x_181.2.1),(10,iW x_181.2.2)],[(1,⟨3,true,x_147.2.1.flatMap eW⟩),(3,⟨3,true,x_147.2.2.flatMap eW⟩)]⟩) (x := ((-1 : Int),(-1 : Int),(0 : Int))) (fun nx_182 x_181 h => ?_) h
      unfold m88_L5 at h
      refine AWP.seq ?_
      refine AWP.seq ?_
      refine AWP.rg (.cons (.move (l1 rfl) (.t rfl))<| .cons (.move (l1 rfl) (.t rfl))<| .cons (.lenRd (l1 rfl) (.t rfl) Tryz.underlying22)<| .cons (.lss (l1 rfl) (.t rfl) (.t rfl))<| .nil _ _ _) ?_
      refine AWP.vs ⟨[(0,rW β1 a0 e63),(4,.own 1 1 0 x_147.2.1.length),(5,.own 3 1 0 x_147.2.2.length),(7,iW x_147.1),(8,iW x_181.1),(9,iW x_181.2.1),(10,iW x_181.2.2),(36,bW (decide (x_181.2.2 < (a0.length : Int))))],[(1,⟨3,true,x_147.2.1.flatMap eW⟩),(3,⟨3,true,x_147.2.2.flatMap eW⟩)]⟩ rfl rfl ?_
      refine AWP.cond (.t rfl) (fun hc => ?_) (fun hc => ?_)
      ·have h := iteT hc h
       refine AWP.skip ?_
       refine AWP.seq ?_
       refine AWP.block ?_
       refine AWP.block ?_
       refine AWP.seq ?_
       obtain ⟨y_183,hy_183,h⟩ := bindS h
       refine AWP.rg (.cons (.move (l1 rfl) (.t rfl))<| .cons (.move (l1 rfl) (.t rfl))<| .cons (.idxOwn (l1 rfl) (.t rfl) (.t rfl) Tryz.underlying23 sz3 rfl hy_183)<| .cons (.loadP (l1 rfl) (.t rfl) one3 rfl (cell_at1 (encI_len .i64) hy_183) rfl)<| .cons (.eql (l1 rfl) (.t rfl) (.const _ _ _))<| .cons (.assign (l1 rfl) (.t rfl))<| .nil _ _ _) ?_
       refine AWP.vs ⟨[(0,rW β1 a0 e63),(4,.own 1 1 0 x_147.2.1.length),(5,.own 3 1 0 x_147.2.2.length),(7,iW x_147.1),(8,iW x_181.1),(9,iW x_181.2.1),(10,iW x_181.2.2),(39,bW (decide (y_183 = (0 : Int))))],[(1,⟨3,true,x_147.2.1.flatMap eW⟩),(3,⟨3,true,x_147.2.2.flatMap eW⟩)]⟩ rfl rfl ?_
       refine AWP.join' (S := fun p_195 : Int × Int => ⟨[(0,rW β1 a0 e63),(4,.own 1 1 0 x_147.2.1.length),(5,.own 3 1 0 x_147.2.2.length),(7,iW x_147.1),(8,iW p_195.1),(9,iW p_195.2),(10,iW x_181.2.2)],[(1,⟨3,true,x_147.2.1.flatMap eW⟩),(3,⟨3,true,x_147.2.2.flatMap eW⟩)]⟩) h (fun p_195 h => ?_) (fun k_196 h => ?_)
       ·obtain ⟨t10_197,ht10_197,h⟩ := letS h
        refine AWP.rg (.cons (.move (l1 rfl) (.t rfl))<| .cons (.add (l1 rfl) (.t rfl) (.const _ _ _))<| .cons (.assign (l1 rfl) (.t rfl))<| .nil _ _ _) ?_
        exact endJ (p_195.1,p_195.2,t10_197) h (by subst ht10_197; exact VC.sub (.of rfl) (.of rfl))
       ·refine AWP.cond (.t rfl) (fun hc => ?_) (fun hc => ?_)
        ·have h := iteT hc h
         refine AWP.skip ?_
         exact endJ (x_181.1,x_181.2.1) h (VC.sub (.of rfl) (.of rfl))
        ·have h := iteF hc h
         refine AWP.seq ?_
         obtain ⟨y_184,hy_184,h⟩ := bindS h
         refine AWP.rg (.cons (.move (l1 rfl) (.t rfl))<| .cons (.move (l1 rfl) (.t rfl))<| .cons (.indexRd (enc := e63) (l1 rfl) (.t rfl) (.t rfl) Tryz.underlying22 sz79 encR63_len rfl hy_184)<| .cons (.fieldR (l1 rfl) (.t rfl) fld79_0 rfl)<| .cons (.loadR (v := iW y_184.Rl) (l1 rfl) (.t rfl) one3 rfl)<| .cons (.move (l1 rfl) (.t rfl))<| .cons (.gtr (l1 rfl) (.t rfl) (.t rfl))<| .cons (.assign (l1 rfl) (.t rfl))<| .nil _ _ _) ?_
         refine AWP.vs ⟨[(0,rW β1 a0 e63),(4,.own 1 1 0 x_147.2.1.length),(5,.own 3 1 0 x_147.2.2.length),(7,iW x_147.1),(8,iW x_181.1),(9,iW x_181.2.1),(10,iW x_181.2.2),(45,bW (decide (x_147.1 < y_184.Rl)))],[(1,⟨3,true,x_147.2.1.flatMap eW⟩),(3,⟨3,true,x_147.2.2.flatMap eW⟩)]⟩ rfl rfl ?_
         refine AWP.join' (S := fun p_193 : Int × Int => ⟨[(0,rW β1 a0 e63),(4,.own 1 1 0 x_147.2.1.length),(5,.own 3 1 0 x_147.2.2.length),(7,iW x_147.1),(8,iW p_193.1),(9,iW p_193.2),(10,iW x_181.2.2)],[(1,⟨3,true,x_147.2.1.flatMap eW⟩),(3,⟨3,true,x_147.2.2.flatMap eW⟩)]⟩) h (fun p_193 h => ?_) (fun k_194 h => ?_)
         ·exact endJ (p_193.1,p_193.2) h (VC.sub (.of rfl) (.of rfl))
         ·refine AWP.cond (.t rfl) (fun hc => ?_) (fun hc => ?_)
          ·have h := iteT hc h
           refine AWP.seq ?_
           obtain ⟨y_185,hy_185,h⟩ := bindS h
           refine AWP.rg (.cons (.move (l1 rfl) (.t rfl))<| .cons (.lss (l1 rfl) (.t rfl) (.const _ _ _))<| .cons (.move (l1 rfl) (.t rfl))<| .guard (j := 2) (dj := 55) rfl (l1 rfl) rfl (l1 rfl) (fun hg => .move (l1 rfl) (.t rfl))<| .guard (j := 2) (dj := 55) rfl (l1 rfl) rfl (l1 rfl) (fun hg => .move (l1 rfl) (.t rfl))<| .guard (j := 2) (dj := 55) rfl (l1 rfl) rfl (l1 rfl) (fun hg => .indexRd (enc := e63) (l1 rfl) (.gd hg (.t rfl)) (.gd hg (.t rfl)) Tryz.underlying22 sz79 encR63_len rfl (gdB hy_185 hg))<| .guard (j := 2) (dj := 55) rfl (l1 rfl) rfl (l1 rfl) (fun hg => .fieldR (l1 rfl) (.gd hg (.t rfl)) fld79_0 rfl)<| .guard (j := 2) (dj := 55) rfl (l1 rfl) rfl (l1 rfl) (fun hg => .loadR (v := iW y_185.Rl) (l1 rfl) (.gd hg (.t rfl)) one3 rfl)<| .guard (j := 2) (dj := 55) rfl (l1 rfl) rfl (l1 rfl) (fun hg => .move (l1 rfl) (.t rfl))<| .guard (j := 2) (dj := 55) rfl (l1 rfl) rfl (l1 rfl) (fun hg => .lss (l1 rfl) (.gd hg (.t rfl)) (.gd hg (.t rfl)))<| .cons (.pickOr (l1 rfl) (.t rfl) (.const _ _ _) (.t rfl))<| .nil _ _ _) ?_
           refine AWP.vs ⟨[(0,rW β1 a0 e63),(4,.own 1 1 0 x_147.2.1.length),(5,.own 3 1 0 x_147.2.2.length),(7,iW x_147.1),(8,iW x_181.1),(9,iW x_181.2.1),(10,iW x_181.2.2),(63,bW ((decide (x_181.2.1 < (0 : Int))) || (decide (y_185.Rl < x_181.2.1))))],[(1,⟨3,true,x_147.2.1.flatMap eW⟩),(3,⟨3,true,x_147.2.2.flatMap eW⟩)]⟩ rfl rfl ?_
           refine AWP.join' (S := fun p_187 : Int => ⟨[(0,rW β1 a0 e63),(4,.own 1 1 0 x_147.2.1.length),(5,.own 3 1 0 x_147.2.2.length),(7,iW x_147.1),(8,iW x_181.1),(9,iW p_187),(10,iW x_181.2.2)],[(1,⟨3,true,x_147.2.1.flatMap eW⟩),(3,⟨3,true,x_147.2.2.flatMap eW⟩)]⟩) h (fun p_187 h => ?_) (fun k_188 h => ?_)
           ·exact endJ (x_181.1,p_187) h (VC.sub (.of rfl) (.of rfl))
           ·refine AWP.cond (.t rfl) (fun hc => ?_) (fun hc => ?_)
            ·have h := iteT hc h
             obtain ⟨y_186,hy_186,h⟩ := bindS h
             refine AWP.rg (.cons (.move (l1 rfl) (.t rfl))<| .cons (.move (l1 rfl) (.t rfl))<| .cons (.indexRd (enc := e63) (l1 rfl) (.t rfl) (.t rfl) Tryz.underlying22 sz79 encR63_len rfl hy_186)<| .cons (.fieldR (l1 rfl) (.t rfl) fld79_0 rfl)<| .cons (.loadR (v := iW y_186.Rl) (l1 rfl) (.t rfl) one3 rfl)<| .cons (.assign (l1 rfl) (.t rfl))<| .nil _ _ _) ?_
             exact endJ y_186.Rl h (VC.sub (.of rfl) (.of rfl))
            ·have h := iteF hc h
             refine AWP.skip ?_
             exact endJ x_181.2.1 h (VC.sub (.of rfl) (.of rfl))
          ·have h := iteF hc h
           refine AWP.seq ?_
           obtain ⟨y_189,hy_189,h⟩ := bindS h
           obtain ⟨y_190,hy_190,h⟩ := bindS h
           refine AWP.dw mixed [(0,rW β1 a0 e63),(4,.own 1 1 0 x_147.2.1.length),(5,.own 3 1 0 x_147.2.2.length),(7,iW x_147.1),(8,iW x_181.1),(9,iW x_181.2.1),(10,iW x_181.2.2),(45,bW (decide (x_147.1 < y_184.Rl)))] [] [dO [4] 70 (iW x_181.1),dO [8] 71 (bW (decide (x_181.1 < (0 : Int)))),dO [9] 72 (bW (decide (x_181.1 < (0 : Int)))),dO [10,1] 73 (.gd (!(decide (x_181.1 < (0 : Int)))) (.own 1 1 0 x_147.2.1.length)),dO [10,6] 74 (.gd (!(decide (x_181.1 < (0 : Int)))) (iW x_181.2.2)),dO [10,11,12] 75 (.gd (!(decide (x_181.1 < (0 : Int)))) (.ptr 1 (0 + (x_181.2.2).toNat * 1))),dO [10,13] 76 (.gd (!(decide (x_181.1 < (0 : Int)))) (iW y_189)),dO [10,1] 77 (.gd (!(decide (x_181.1 < (0 : Int)))) (.own 1 1 0 x_147.2.1.length)),dO [10,4] 78 (.gd (!(decide (x_181.1 < (0 : Int)))) (iW x_181.1)),dO [10,15,16] 79 (.gd (!(decide (x_181.1 < (0 : Int)))) (.ptr 1 (0 + (x_181.1).toNat * 1))),dO [10,17] 80 (.gd (!(decide (x_181.1 < (0 : Int)))) (iW y_190)),dO [10,14,18] 81 (.gd (!(decide (x_181.1 < (0 : Int)))) (bW (decide (y_189 < y_190)))),dO [10,19] 82 (bW ((decide (x_181.1 < (0 : Int))) || (decide (y_189 < y_190)))),dO [20] 69 (bW ((decide (x_181.1 < (0 : Int))) || (decide (y_189 < y_190))))] [] [[(1,⟨3,true,x_147.2.1.flatMap eW⟩),(3,⟨3,true,x_147.2.2.flatMap eW⟩)]] [[],[0,1],[0,2],[0,3],[0,3],[0,5],[0,6],[0,3],[0,3],[0,3,7,9],[0,3,7,10],[0,11],[0,12],[0,13]] [0,1,2,3,4,5,6,21] rfl rfl (by kernel_rfl) rfl (.p rfl (fun _ q _ => .move (l1 rfl) (q.t 0 rfl))<| .p rfl (fun _ q _ => .lss (l1 rfl) (q.t 0 rfl) (.const _ _ _))<| .p rfl (fun _ q _ => .move (l1 rfl) (q.t 0 rfl))<| .rf rfl rfl rfl rfl rfl rfl (fun hg _ q => .move (l1 rfl) (q.t 1 rfl))<| .gf rfl rfl rfl rfl rfl (fun hg _ q _ => .move (l1 rfl) (q.t 1 rfl))<| .rf rfl rfl rfl rfl rfl rfl (fun hg _ q => .idxOwn (l1 rfl) (.gd hg (q.t 1 rfl)) (.gd hg (q.t 2 rfl)) Tryz.underlying23 sz3 rfl (gdB hy_189 hg))<| .rf rfl rfl rfl rfl rfl rfl (fun hg _ q => .loadP (l1 rfl) (.gd hg (q.t 1 rfl)) one3 rfl (cell_at1 (encI_len .i64) (gdB hy_189 hg)) rfl)<| .rf rfl rfl rfl rfl rfl rfl (fun hg _ q => .move (l1 rfl) (q.t 1 rfl))<| .gf rfl rfl rfl rfl rfl (fun hg _ q _ => .move (l1 rfl) (q.t 1 rfl))<| .rf rfl rfl rfl rfl rfl rfl (fun hg _ q => .idxOwn (l1 rfl) (.gd hg (q.t 1 rfl)) (.gd hg (q.t 2 rfl)) Tryz.underlying23 sz3 rfl (gdB hy_190 hg))<| .rf rfl rfl rfl rfl rfl rfl (fun hg _ q => .loadP (l1 rfl) (.gd hg (q.t 1 rfl)) one3 rfl (cell_at1 (encI_len .i64) (gdB hy_190 hg)) rfl)<| .gf rfl rfl rfl rfl rfl (fun hg _ q _ => .lss (l1 rfl) (.gd hg (q.t 1 rfl)) (.gd hg (q.t 2 rfl)))<| .p rfl (fun _ q _ => .pickOr (l1 rfl) (q.t 0 rfl) (.const _ _ _) (q.t 1 rfl))<| .p rfl (fun _ q _ => .assign (l1 rfl) (q.t 0 rfl))<| .nil _) rfl rfl ?_
           refine AWP.vs ⟨[(0,rW β1 a0 e63),(4,.own 1 1 0 x_147.2.1.length),(5,.own 3 1 0 x_147.2.2.length),(7,iW x_147.1),(8,iW x_181.1),(9,iW x_181.2.1),(10,iW x_181.2.2),(69,bW ((decide (x_181.1 < (0 : Int))) || (decide (y_189 < y_190))))],[(1,⟨3,true,x_147.2.1.flatMap eW⟩),(3,⟨3,true,x_147.2.2.flatMap eW⟩)]⟩ rfl rfl ?_
           refine AWP.join' (S := fun p_191 : Int => ⟨[(0,rW β1 a0 e63),(4,.own 1 1 0 x_147.2.1.length),(5,.own 3 1 0 x_147.2.2.length),(7,iW x_147.1),(8,iW p_191),(9,iW x_181.2.1),(10,iW x_181.2.2)],[(1,⟨3,true,x_147.2.1.flatMap eW⟩),(3,⟨3,true,x_147.2.2.flatMap eW⟩)]⟩) h (fun p_191 h => ?_) (fun k_192 h => ?_)
           ·exact endJ (p_191,x_181.2.1) h (VC.sub (.of rfl) (.of rfl))
           ·refine AWP.cond (.t rfl) (fun hc => ?_) (fun hc => ?_)
            ·have h := iteT hc h
             refine AWP.rg (.cons (.move (l1 rfl) (.t rfl))<| .cons (.assign (l1 rfl) (.t rfl))<| .nil _ _ _) ?_
             exact endJ x_181.2.2 h (VC.sub (.of rfl) (.of rfl))
            ·have h := iteF hc h
             refine AWP.skip ?_
             exact endJ x_181.1 h (VC.sub (.of rfl) (.of rfl))
      ·have h := iteF hc h
       refine AWP.exit ?_
       exact endJ (x_181.1,x_181.2.1) h (VC.sub (.of rfl) (.of rfl))
    ·have h := iteF hc h
     refine AWP.exit ?_
     exact endJ x_147.2.2 h (VC.sub (.of rfl) (.of rfl))
  ·refine AWP.vc (VC.nilOwn (d := 4) (t := 1) (sz := 1) (E := 3) rfl (nm rfl)) ?_
   refine AWP.vs ⟨[(0,rW β1 a0 e63),(4,.own 1 1 0 ([] : List Int).length),(5,.sc (.slice none 0 0)),(6,iW (0 : Int))],[(1,⟨3,true,([] : List Int).flatMap eW⟩)]⟩ rfl rfl ?_
   refine AWP.loopM (S := fun x_10 : Int × (List Int) => ⟨[(0,rW β1 a0 e63),(4,.own 1 1 0 x_10.2.length),(5,.sc (.slice none 0 0)),(6,iW x_10.1)],[(1,⟨3,true,x_10.2.flatMap eW⟩)]⟩) (x := ((0 : Int),([] : List Int))) (fun nx_11 x_10 h => ?_) h
   unfold m88_L1 at h
   refine AWP.seq ?_
   refine AWP.seq ?_
   refine AWP.rg (.cons (.move (l1 rfl) (.t rfl))<| .cons (.move (l1 rfl) (.t rfl))<| .cons (.lenRd (l1 rfl) (.t rfl) Tryz.underlying22)<| .cons (.lss (l1 rfl) (.t rfl) (.t rfl))<| .nil _ _ _) ?_
   refine AWP.vs ⟨[(0,rW β1 a0 e63),(4,.own 1 1 0 x_10.2.length),(5,.sc (.slice none 0 0)),(6,iW x_10.1),(17,bW (decide (x_10.1 < (a0.length : Int))))],[(1,⟨3,true,x_10.2.flatMap eW⟩)]⟩ rfl rfl ?_
   refine AWP.cond (.t rfl) (fun hc => ?_) (fun hc => ?_)
   ·have h := iteT hc h
    refine AWP.skip ?_
    refine AWP.seq ?_
    refine AWP.block ?_
    obtain ⟨y_12,hy_12,h⟩ := bindS h
    obtain ⟨l1_13,hl1_13,h⟩ := bindS h
    refine AWP.rg (.cons (.move (l1 rfl) (.t rfl))<| .cons (.move (l1 rfl) (.t rfl))<| .cons (.move (l1 rfl) (.t rfl))<| .cons (.indexRd (enc := e63) (l1 rfl) (.t rfl) (.t rfl) Tryz.underlying22 sz79 encR63_len rfl hy_12)<| .cons (.fieldR (l1 rfl) (.t rfl) fld79_1 rfl)<| .cons (.loadR (v := iW y_12.Ln) (l1 rfl) (.t rfl) one3 rfl)<| .cons (.buildSlice (t := 2) (out := ([y_12.Ln] : List Int).flatMap eW) (l1 rfl) (nm rfl) (.cons (.t rfl) (by first | exact ⟨rfl,rfl⟩ | rfl) (.nil)) Tryz.underlying23 zero3 el3 (by decide) (by decide) rfl (still_all (encI_still .i64) _))<| .cons (.app (enc := eW) (l1 rfl) (nm rfl) (.t rfl) (Src.own (.t rfl) rfl (lendAll (encI_len .i64) _) (flatMap_length (encI_len .i64) _) (one_all (encI_one .i64) _) (.inl rfl)) Tryz.underlying23 ⟨_,Tryz.underlying23,by intro k hk; cases hk⟩ el3 rfl (encI_len .i64) rfl rfl (by decide) hl1_13)<| .cons (.assign (l1 rfl) (.t rfl))<| .nil _ _ _) ?_
    refine AWP.vs ⟨[(0,rW β1 a0 e63),(4,.own 1 1 0 l1_13.length),(5,.sc (.slice none 0 0)),(6,iW x_10.1)],[(1,⟨3,true,l1_13.flatMap eW⟩)]⟩ rfl rfl ?_
    obtain ⟨t6_14,ht6_14,h⟩ := letS h
    refine AWP.rg (.cons (.move (l1 rfl) (.t rfl))<| .cons (.add (l1 rfl) (.t rfl) (.const _ _ _))<| .cons (.assign (l1 rfl) (.t rfl))<| .nil _ _ _) ?_
    exact endJ (t6_14,l1_13) h (by subst ht6_14; exact VC.sub (.of rfl) (.of rfl))
   ·have h := iteF hc h
    refine AWP.exit ?_
    exact endJ x_10.2 h (VC.sub (.of rfl) (.of rfl))
theorem c89 {β1 : Bool} (n : Nat) (a0 : (List Int)) {r : (List Int)} (h : m89 n a0 = some r) : Spec Tryz.prog 89 [] [rW β1 a0 eW] [] (rW false r eW) [] := by
 refine Spec.of (fn := Tryz.f89) Tryz.func89 Tryz.ntmps89 rfl rfl (le1 rfl) (fun w0 Zs Zb T0 ι0 => ?_)
 unfold m89 at h
 refine AWP.seq ?_
 refine AWP.rg (.cons (.assign (l1 rfl) (.const _ _ _))<| .nil _ _ _) ?_
 refine AWP.vs ⟨[(0,rW β1 a0 eW)],[]⟩ rfl rfl ?_
 refine AWP.seq ?_
 refine AWP.rg (.cons (.assign (l1 rfl) (.const _ _ _))<| .nil _ _ _) ?_
 refine AWP.vs ⟨[(0,rW β1 a0 eW),(3,.sc (.slice none 0 0))],[]⟩ rfl rfl ?_
 refine AWP.seq ?_
 refine AWP.seq ?_
 refine AWP.rg (.cons (.assign (l1 rfl) (.const _ _ _))<| .nil _ _ _) ?_
 refine AWP.vs ⟨[(0,rW β1 a0 eW),(3,.sc (.slice none 0 0)),(4,iW (0 : Int))],[]⟩ rfl rfl ?_
 refine AWP.joinB' (S := fun p_72 : (List Int) => ⟨[(3,rW false p_72 eW)],[]⟩) h (fun p_72 h => ?_) (fun k_73 h => ?_)
 ·refine AWP.seq ?_
  refine AWP.rg (.cons (.move (l1 rfl) (.t rfl))<| .cons (.assign (l1 rfl) (.t rfl))<| .nil _ _ _) ?_
  refine AWP.ret ?_
  obtain rfl := Option.some.inj h
  refine retJ (Res.vc (s' := ⟨[(2,rW false p_72 eW)],[]⟩) (VC.sub (.of rfl) (.n _)) ?_)
  refine Res.drop (H := []) rfl ?_
  exact Res.of rfl (.cons (.tmp rfl) (.nil)) rfl rfl
 ·refine AWP.vc (VC.nilRd (d := 3) false rfl) ?_
  refine AWP.vs ⟨[(0,rW β1 a0 eW),(3,rW false ([] : List Int) eW),(4,iW (0 : Int))],[]⟩ rfl rfl ?_
  refine AWP.loopM (S := fun x_48 : (List Int) × Int => ⟨[(0,rW β1 a0 eW),(3,rW false x_48.1 eW),(4,iW x_48.2)],[]⟩) (x := (([] : List Int),(0 : Int))) (fun nx_49 x_48 h => ?_) h
  unfold m89_L3 at h
  refine AWP.seq ?_
  refine AWP.seq ?_
  refine AWP.rg (.cons (.move (l1 rfl) (.t rfl))<| .cons (.move (l1 rfl) (.t rfl))<| .cons (.lenRd (l1 rfl) (.t rfl) Tryz.underlying23)<| .cons (.lss (l1 rfl) (.t rfl) (.t rfl))<| .nil _ _ _) ?_
  refine AWP.vs ⟨[(0,rW β1 a0 eW),(3,rW false x_48.1 eW),(4,iW x_48.2),(9,bW (decide (x_48.2 < (a0.length : Int))))],[]⟩ rfl rfl ?_
  refine AWP.cond (.t rfl) (fun hc => ?_) (fun hc => ?_)
  ·have h := iteT hc h
   refine AWP.skip ?_
   refine AWP.seq ?_
   refine AWP.block ?_
   refine AWP.seq ?_
   refine AWP.rg (.cons (.move (l1 rfl) (.t rfl))<| .cons (.lenRd (l1 rfl) (.t rfl) Tryz.underlying23)<| .cons (.assign (l1 rfl) (.t rfl))<| .nil _ _ _) ?_
   refine AWP.vs ⟨[(0,rW β1 a0 eW),(3,rW false x_48.1 eW),(4,iW x_48.2),(5,iW (x_48.1.length : Int))],[]⟩ rfl rfl ?_
   refine AWP.seq ?_
   refine AWP.joinB' (S := fun p_63 : Int => ⟨[(0,rW β1 a0 eW),(3,rW false x_48.1 eW),(4,iW x_48.2),(5,iW p_63)],[]⟩) h (fun p_63 h => ?_) (fun k_64 h => ?_)
   ·obtain ⟨s_65,hs_65,h⟩ := bindS h
    obtain ⟨y_66,hy_66,h⟩ := bindS h
    obtain ⟨s_67,hs_67,h⟩ := bindS h
    obtain ⟨l1_68,hl1_68,h⟩ := bindS h
    obtain ⟨ha_69,h⟩ := asrtS h
    obtain ⟨l2_70,hl2_70,h⟩ := bindS h
    refine AWP.dw mixed [(0,rW β1 a0 eW),(3,rW false x_48.1 eW),(4,iW x_48.2),(5,iW p_63)] [(1,[14]),(12,[12])] [⟨[1],0,3,some (30,rW false x_48.1 eW),[]⟩,⟨[3],0,3,some (31,iW p_63),[]⟩,⟨[3],0,3,some (32,iW p_63),[]⟩,⟨[4,5,6],0,3,some (33,.rdx false s_65.length (s_65.flatMap eW)),[]⟩,⟨[0],0,3,some (34,rW β1 a0 eW),[]⟩,⟨[2],0,3,some (35,iW x_48.2),[]⟩,⟨[8,9],0,3,some (36,.rptr β1 [iW y_66]),[]⟩,⟨[10],0,3,some (37,iW y_66),[]⟩,⟨[11],0,0,some (38,.own 1 1 0 ([y_66] : List Int).length),[1]⟩,⟨[1],0,3,some (39,rW false x_48.1 eW),[]⟩,⟨[3],0,3,some (40,iW p_63),[]⟩,⟨[13,14],0,3,some (41,rW false s_67 eW),[]⟩,⟨[12,15],1,1,some (42,.own 1 1 0 l1_68.length),[1]⟩,⟨[7,16],2,2,some (43,.own 2 1 0 l2_70.length),[2]⟩,⟨[17],3,3,some (3,.own 2 1 0 l2_70.length),[]⟩] [8,12,13] [[],[(1,⟨3,true,([y_66] : List Int).flatMap eW⟩)],[(1,⟨3,true,l1_68.flatMap eW⟩)],[(2,⟨3,true,l2_70.flatMap eW⟩),(1,⟨3,true,l1_68.flatMap eW⟩)]] [[],[],[],[0,3],[],[],[4,6],[4,7],[4,8],[],[],[9,11],[4,12],[0,13],[0,14]] [0,18,2] rfl rfl (by kernel_rfl) rfl (.p rfl (fun _ q _ => .move (l1 rfl) (q.t 0 rfl))<| .p rfl (fun _ q _ => .move (l1 rfl) (q.t 0 rfl))<| .p rfl (fun _ q _ => .move (l1 rfl) (q.t 0 rfl))<| .p rfl (fun _ q _ => .slX (enc := eW) (l1 rfl) (q.t 0 rfl) Tryz.underlying23 sz3 (encI_len .i64) rfl (.none _ _ _) (q.t 1 rfl) (q.t 2 rfl) hs_65)<| .p rfl (fun _ q _ => .move (l1 rfl) (q.t 0 rfl))<| .p rfl (fun _ q _ => .move (l1 rfl) (q.t 0 rfl))<| .p rfl (fun _ q _ => .indexRd (enc := eW) (l1 rfl) (q.t 0 rfl) (q.t 1 rfl) Tryz.underlying23 sz3 (encI_len .i64) rfl hy_66)<| .p rfl (fun _ q _ => .loadR (v := iW y_66) (l1 rfl) (q.t 0 rfl) one3 rfl)<| .turn rfl rfl rfl rfl rfl (.new (fun E hE => .buildSlice (t := 1) (out := ([y_66] : List Int).flatMap eW) (l1 rfl) (nm rfl) (.cons (hE.t 0 rfl) (by first | exact ⟨rfl,rfl⟩ | rfl) (.nil)) Tryz.underlying23 zero3 el3 (by decide) (by decide) rfl (still_all (encI_still .i64) _)) rfl)<| .p rfl (fun _ q _ => .move (l1 rfl) (q.t 0 rfl))<| .p rfl (fun _ q _ => .move (l1 rfl) (q.t 0 rfl))<| .p rfl (fun _ q _ => .slRd (enc := eW) (l1 rfl) (q.t 0 rfl) Tryz.underlying23 sz3 (encI_len .i64) rfl (.some (q.t 1 rfl)) (.none _ _ _) hs_67)<| .turn rfl rfl rfl rfl rfl (.new (fun E hE => .app (enc := eW) (l1 rfl) (nm rfl) (hE.t 0 rfl) (Src.rd (hE.t 1 rfl) (flatMap_length (encI_len .i64) _) (one_all (encI_one .i64) _) (.inl rfl)) Tryz.underlying23 ⟨_,Tryz.underlying23,by intro k hk; cases hk⟩ el3 rfl (encI_len .i64) rfl rfl (by decide) hl1_68) rfl)<| .turn rfl rfl rfl rfl rfl (.new (fun E hE => .appX (t := 2) (enc := eW) (l1 rfl) (nm rfl) (hE.t 0 rfl) (.inl rfl) (Src.own (hE.t 1 rfl) rfl (lendAll (encI_len .i64) _) (flatMap_length (encI_len .i64) _) (one_all (encI_one .i64) _) (.inl rfl)) Tryz.underlying23 ⟨_,Tryz.underlying23,by intro k hk; cases hk⟩ el3 (encI_len .i64) rfl rfl (by decide) ha_69 hl2_70) rfl)<| .read rfl (.c (.put (fun E hE => .assign (l1 rfl) (hE.t 0 rfl))) (.n))<| .nil _) rfl rfl ?_
    refine AWP.vs ⟨[(0,rW β1 a0 eW),(3,.own 2 1 0 l2_70.length),(4,iW x_48.2)],[(2,⟨3,true,l2_70.flatMap eW⟩)]⟩ rfl rfl ?_
    obtain ⟨t4_71,ht4_71,h⟩ := letS h
    refine AWP.rg (.cons (.move (l1 rfl) (.t rfl))<| .cons (.add (l1 rfl) (.t rfl) (.const _ _ _))<| .cons (.assign (l1 rfl) (.t rfl))<| .nil _ _ _) ?_
    exact endJ (l2_70,t4_71) h (by subst ht4_71; exact VC.trans (VC.frz (d := 3) (t := 2) rfl rfl (encI_len .i64)) (VC.sub (.of rfl) (.n _)))
   ·refine AWP.vs ⟨[(0,rW β1 a0 eW),(3,rW false x_48.1 eW),(4,iW x_48.2),(5,iW (x_48.1.length : Int))],[]⟩ rfl rfl ?_
    refine AWP.loopM (S := fun x_58 : Int => ⟨[(0,rW β1 a0 eW),(3,rW false x_48.1 eW),(4,iW x_48.2),(5,iW x_58)],[]⟩) (x := (x_48.1.length : Int)) (fun nx_59 x_58 h => ?_) h
    unfold m89_L4 at h
    refine AWP.seq ?_
    refine AWP.seq ?_
    obtain ⟨y_60,hy_60,h⟩ := bindS h
    obtain ⟨y_61,hy_61,h⟩ := bindS h
    refine AWP.dw mixed [(0,rW β1 a0 eW),(3,rW false x_48.1 eW),(4,iW x_48.2),(5,iW x_58)] [] [dO [3] 14 (iW x_58),dO [4] 15 (bW (decide ((0 : Int) < x_58))),dO [5] 16 (bW (decide ((0 : Int) < x_58))),dO [6,1] 17 (.gd (decide ((0 : Int) < x_58)) (rW false x_48.1 eW)),dO [6,3] 18 (.gd (decide ((0 : Int) < x_58)) (iW x_58)),dO [6,8] 19 (.gd (decide ((0 : Int) < x_58)) (iW (IntKind.wrap .i64 (x_58 - (1 : Int))))),dO [6,7,9] 20 (.gd (decide ((0 : Int) < x_58)) (.rptr false [iW y_60])),dO [6,10] 21 (.gd (decide ((0 : Int) < x_58)) (iW y_60)),dO [6,0] 22 (.gd (decide ((0 : Int) < x_58)) (rW β1 a0 eW)),dO [6,2] 23 (.gd (decide ((0 : Int) < x_58)) (iW x_48.2)),dO [6,12,13] 24 (.gd (decide ((0 : Int) < x_58)) (.rptr β1 [iW y_61])),dO [6,14] 25 (.gd (decide ((0 : Int) < x_58)) (iW y_61)),dO [6,11,15] 26 (.gd (decide ((0 : Int) < x_58)) (bW (decide (y_61 < y_60)))),dO [6,16] 27 (bW ((decide ((0 : Int) < x_58)) && (decide (y_61 < y_60))))] [] [[]] [[],[0,1],[0,2],[0,3],[0,3],[0,3,4,5],[0,6],[0,7],[0,3],[0,3],[0,3,8,10],[0,3,8,11],[0,12],[0,13]] [0,1,2,3,17] rfl rfl (by kernel_rfl) rfl (.p rfl (fun _ q _ => .move (l1 rfl) (q.t 0 rfl))<| .p rfl (fun _ q _ => .gtr (l1 rfl) (q.t 0 rfl) (.const _ _ _))<| .p rfl (fun _ q _ => .move (l1 rfl) (q.t 0 rfl))<| .gt rfl rfl rfl rfl rfl (fun hg _ q _ => .move (l1 rfl) (q.t 1 rfl))<| .gt rfl rfl rfl rfl rfl (fun hg _ q _ => .move (l1 rfl) (q.t 1 rfl))<| .gt rfl rfl rfl rfl rfl (fun hg _ q _ => .sub (l1 rfl) (.gd hg (q.t 1 rfl)) (.const _ _ _))<| .gt rfl rfl rfl rfl rfl (fun hg _ q _ => .indexRd (enc := eW) (l1 rfl) (.gd hg (q.t 1 rfl)) (.gd hg (q.t 2 rfl)) Tryz.underlying23 sz3 (encI_len .i64) rfl (gdB hy_60 hg))<| .gt rfl rfl rfl rfl rfl (fun hg _ q _ => .loadR (v := iW y_60) (l1 rfl) (.gd hg (q.t 1 rfl)) one3 rfl)<| .gt rfl rfl rfl rfl rfl (fun hg _ q _ => .move (l1 rfl) (q.t 1 rfl))<| .gt rfl rfl rfl rfl rfl (fun hg _ q _ => .move (l1 rfl) (q.t 1 rfl))<| .gt rfl rfl rfl rfl rfl (fun hg _ q _ => .indexRd (enc := eW) (l1 rfl) (.gd hg (q.t 1 rfl)) (.gd hg (q.t 2 rfl)) Tryz.underlying23 sz3 (encI_len .i64) rfl (gdB hy_61 hg))<| .gt rfl rfl rfl rfl rfl (fun hg _ q _ => .loadR (v := iW y_61) (l1 rfl) (.gd hg (q.t 1 rfl)) one3 rfl)<| .gt rfl rfl rfl rfl rfl (fun hg _ q _ => .gtr (l1 rfl) (.gd hg (q.t 1 rfl)) (.gd hg (q.t 2 rfl)))<| .p rfl (fun _ q _ => .pickAnd (l1 rfl) (q.t 0 rfl) (q.t 1 rfl) (.const _ _ _))<| .nil _) rfl rfl ?_
    refine AWP.vs ⟨[(0,rW β1 a0 eW),(3,rW false x_48.1 eW),(4,iW x_48.2),(5,iW x_58),(27,bW ((decide ((0 : Int) < x_58)) && (decide (y_61 < y_60))))],[]⟩ rfl rfl ?_
    refine AWP.cond (.t rfl) (fun hc => ?_) (fun hc => ?_)
    ·have h := iteT hc h
     refine AWP.skip ?_
     refine AWP.block ?_
     obtain ⟨t5_62,ht5_62,h⟩ := letS h
     refine AWP.rg (.cons (.move (l1 rfl) (.t rfl))<| .cons (.sub (l1 rfl) (.t rfl) (.const _ _ _))<| .cons (.assign (l1 rfl) (.t rfl))<| .nil _ _ _) ?_
     exact endJ t5_62 h (by subst ht5_62; exact VC.sub (.of rfl) (.n _))
    ·have h := iteF hc h
     refine AWP.exit ?_
     exact endJ x_58 h (VC.sub (.of rfl) (.n _))
  ·have h := iteF hc h
   refine AWP.exit ?_
   exact endJ x_48.1 h (VC.sub (.of rfl) (.n _))
end Go.AB
