import Derived.Test.YtnmglighdhaccaaProg
import Derived.Test.YtnmglighdhaccaaF8b
import Derived.KernelRfl
set_option linter.unusedVariables false
set_option maxRecDepth 20000
namespace Go.AB
open Go Go.Proofs
theorem c39 {β1 : Bool} {β2 : Bool} (n : Nat) (a0 : R23) (a1 : (List R56)) {r : ((List R56) × Int)} (h : m39 n a0 a1 = some r) : Spec Try.prog 39 [] [.agg (pW β1 β2 a0),rW false a1 e56] [] (.tup [rW false r.1 e56,iW r.2]) [] := by
 refine Spec.ofR (fun r : ((List R56) × Int) => .tup [rW false r.1 e56,iW r.2]) (fun r : ((List R56) × Int) => []) (rr := r) (fn := Try.f39) Try.func39 Try.ntmps39 rfl rfl (le1 rfl) (fun w0 Zs Zb T0 ι0 => ?_)
 unfold m39 at h
 refine AWPF.seq ?_
 refine AWPF.of fun d_ => AWP.rg (.cons (.box (t := 1) (n := 4) (lt1 rfl) (nm rfl) (.t rfl) (by first | exact ⟨rfl,rfl⟩ | rfl) rfl)<| .cons (.assign (lt1 rfl) (.const _ _ _))<| .cons (.assign (lt1 rfl) (.const _ _ _))<| .nil _ _ _) ?_
 refine AWPF.vc (s' := ⟨[(1,rW false a1 e56),(2,.ptr 1 0)],[(1,⟨32,false,(pW β1 β2 a0)⟩)]⟩) (fun d_ => VC.sub (.of rfl) (.of rfl)) ?_
 refine AWPF.seq ?_
 obtain ⟨y_1,hy_1,h⟩ := bindS h
 refine AWPF.of fun d_ => AWP.rg (.cons (.loadPA (lt1 rfl) (.t rfl) agg32 rfl rfl rfl rfl)<| .cons (.move (lt1 rfl) (.t rfl))<| .cons (.call (σ := fun _ => 2) (bw := false) (lt1 rfl) (c33o (β1 := β1) (β2 := β2) (β3 := false) n (R23.mk a0.Lq a0.Dq a0.Sq a0.Kq) a1 hy_1) (.cons (.t rfl) (.ren rfl) (.cons (.t rfl) (.ren rfl) (.nil))) (CallOk.mk' (.n) rfl))<| .cons (.move (lt1 rfl) (.t rfl))<| .cons (.extract (lt1 rfl) (.t rfl) rfl)<| .cons (.extract (lt1 rfl) (.t rfl) rfl)<| .cons (.alloc (t := 3) (k := ⟨22,false,[.sc (.slice none 0 0)]⟩) (lt1 rfl) (nm rfl) zero22 rfl rfl)<| .cons (.storeP (.t rfl) (.t rfl) sz22 rfl (lt1 rfl) rfl (by intro h; cases h) rfl)<| .cons (.assign (lt1 rfl) (.t rfl))<| .nil _ _ _) ?_
 refine AWPF.vc (s' := ⟨[(1,rW false a1 e56),(2,.ptr 1 0),(6,.ptr 3 0),(7,iW y_1.2)],[(3,⟨22,false,[.own 2 1 0 y_1.1.length]⟩),(2,⟨3,true,y_1.1.flatMap eW⟩),(1,⟨32,false,(pW β1 β2 a0)⟩)]⟩) (fun d_ => VC.sub (.of rfl) (.of rfl)) ?_
 refine AWPF.seq ?_
 refine AWPF.seq ?_
 refine AWPF.of fun d_ => AWP.rg (.cons (.move (lt1 rfl) (.t rfl))<| .cons (.neq (lt1 rfl) (.t rfl) (.const _ _ _))<| .nil _ _ _) ?_
 refine AWPF.vc (s' := ⟨[(1,rW false a1 e56),(2,.ptr 1 0),(6,.ptr 3 0),(7,iW y_1.2),(20,bW (!decide (y_1.2 = (0 : Int))))],[(3,⟨22,false,[.own 2 1 0 y_1.1.length]⟩),(2,⟨3,true,y_1.1.flatMap eW⟩),(1,⟨32,false,(pW β1 β2 a0)⟩)]⟩) (fun d_ => VC.sub (.of rfl) (.of rfl)) ?_
 refine AWPF.cond (fun d_ => .tmp rfl) (fun hc => ?_) (fun hc => ?_)
 ·have h := iteT hc h
  refine AWPF.seq ?_
  refine AWPF.of fun d_ => AWP.rg (.cons (.move (lt1 rfl) (.t rfl))<| .cons (.assign (lt1 rfl) (.const _ _ _))<| .cons (.assign (lt1 rfl) (.t rfl))<| .nil _ _ _) ?_
  refine AWPF.ret ?_
  obtain rfl := Option.some.inj h
  refine ⟨.inl rfl,_,rfl,fun w0 Zs Zb T0 ι0 => (Res.vc (s' := ⟨[(4,rW false ([] : List R56) e56),(5,iW y_1.2)],[]⟩) (VC.trans (VC.nilRd (d := 4) false rfl) (VC.sub (.of rfl) (.n _))) ?_)⟩
  refine Res.drop (H := []) rfl ?_
  exact Res.of rfl (.cons (.tmp rfl) (.cons (.tmp rfl) (.nil))) rfl rfl
 ·have h := iteF hc h
  refine AWPF.skip ?_
  refine AWPF.seq ?_
  refine AWPF.seq ?_
  obtain ⟨y_2,hy_2,h⟩ := bindS h
  refine AWPF.of fun d_ => AWP.rg (.cons (.loadPA (lt1 rfl) (.t rfl) agg32 rfl rfl rfl rfl)<| .cons (.move (lt1 rfl) (.t rfl))<| .cons (.call0 (bw := false) (lt1 rfl) (c41 (β1 := β1) (β2 := β2) (β3 := false) n (R23.mk a0.Lq a0.Dq a0.Sq a0.Kq) a1 hy_2) (.cons (.t rfl) (.ren rfl) (.cons (.t rfl) (.ren rfl) (.nil))) rfl)<| .cons (.not (lt1 rfl) (.t rfl))<| .nil _ _ _) ?_
  refine AWPF.vc (s' := ⟨[(1,rW false a1 e56),(2,.ptr 1 0),(6,.ptr 3 0),(25,bW (!y_2))],[(3,⟨22,false,[.own 2 1 0 y_1.1.length]⟩),(2,⟨3,true,y_1.1.flatMap eW⟩),(1,⟨32,false,(pW β1 β2 a0)⟩)]⟩) (fun d_ => VC.sub (.of rfl) (.of rfl)) ?_
  refine AWPF.cond (fun d_ => .tmp rfl) (fun hc => ?_) (fun hc => ?_)
  ·have h := iteT hc h
   refine AWPF.seq ?_
   refine AWPF.of fun d_ => AWP.rg (.cons (.assign (lt1 rfl) (.const _ _ _))<| .cons (.assign (lt1 rfl) (.const _ _ _))<| .nil _ _ _) ?_
   refine AWPF.ret ?_
   obtain rfl := Option.some.inj h
   refine ⟨.inl rfl,_,rfl,fun w0 Zs Zb T0 ι0 => (Res.vc (s' := ⟨[(4,rW false ([] : List R56) e56),(5,iW (18 : Int))],[]⟩) (VC.trans (VC.nilRd (d := 4) false rfl) (VC.sub (.of rfl) (.n _))) ?_)⟩
   refine Res.drop (H := []) rfl ?_
   exact Res.of rfl (.cons (.tmp rfl) (.cons (.tmp rfl) (.nil))) rfl rfl
  ·have h := iteF hc h
   refine AWPF.skip ?_
   refine AWPF.seq ?_
   refine AWPF.seq ?_
   refine AWPF.of fun d_ => AWP.rg (.cons (.loadP (lt1 rfl) (.t rfl) one22 rfl rfl rfl)<| .cons (.lenOwn (lt1 rfl) (.t rfl) Try.underlying22)<| .cons (.move (lt1 rfl) (.const _ _ _))<| .nil _ _ _) ?_
   refine AWPF.vc (s' := ⟨[(1,rW false a1 e56),(2,.ptr 1 0),(6,.ptr 3 0),(27,iW (y_1.1.length : Int)),(28,iW (0 : Int))],[(3,⟨22,false,[.own 2 1 0 y_1.1.length]⟩),(2,⟨3,true,y_1.1.flatMap eW⟩),(1,⟨32,false,(pW β1 β2 a0)⟩)]⟩) (fun d_ => VC.sub (.of rfl) (.of rfl)) ?_
   refine AWPF.joinB' (S := fun p_22 : (List Int) => ⟨[(1,rW false a1 e56),(6,.ptr 3 0)],[(3,⟨22,false,[.own 2 1 0 p_22.length]⟩),(2,⟨3,true,p_22.flatMap eW⟩)]⟩) h (fun p_22 r h => ?_) (fun k_23 h => ?_)
   ·refine AWPF.seq ?_
    refine AWPF.of fun d_ => AWP.rg (.cons (.alloc (t := 4) (k := ⟨53,false,[.sc (.slice none 0 0)]⟩) (lt1 rfl) (nm rfl) zero53 rfl rfl)<| .nil _ _ _) ?_
    refine AWPF.vc (s' := ⟨[(1,rW false a1 e56),(6,.ptr 3 0),(9,.ptr 4 0)],[(4,⟨53,false,[.sc (.slice none 0 0)]⟩),(3,⟨22,false,[.own 2 1 0 p_22.length]⟩),(2,⟨3,true,p_22.flatMap eW⟩)]⟩) (fun d_ => VC.sub (.of rfl) (.of rfl)) ?_
    refine AWPF.seq ?_
    refine AWPF.seq ?_
    obtain ⟨y_24,hy_24,h⟩ := bindS h
    obtain ⟨y_25,hy_25,h⟩ := bindS h
    refine AWPF.of fun d_ => AWP.rg (.cons (.move (lt1 rfl) (.t rfl))<| .cons (.call0 (bw := false) (lt1 rfl) (c31 n a1 hy_24) (.cons (.t rfl) (.ren rfl) (.nil)) rfl)<| .cons (.call (σ := fun _ => 5) (bw := false) (lt1 rfl) (c60 (β1 := false) n y_24 hy_25) (.cons (.t rfl) (.ren rfl) (.nil)) (CallOk.mk' (.n) rfl))<| .nil _ _ _) ?_
    refine AWPF.vc (s' := ⟨[(6,.ptr 3 0),(9,.ptr 4 0),(45,.clo (.func 69) [] [.ptr 5 0])],[(5,⟨53,false,[rW false y_24 e56]⟩),(4,⟨53,false,[.sc (.slice none 0 0)]⟩),(3,⟨22,false,[.own 2 1 0 p_22.length]⟩),(2,⟨3,true,p_22.flatMap eW⟩)]⟩) (fun d_ => VC.sub (.of rfl) (.of rfl)) ?_
    refine AWPF.block ?_
    refine AWPF.vc (fun d_ => VC.trans (VC.newTag (t := 6) (E := 57) (nm rfl)) (VC.cell (t := 4) (i := 0) (v' := .own 6 2 0 0) rfl rfl rfl (fun _ _ _ _ h => nil_own h))) ?_
    obtain ⟨y_26,hy_26,h⟩ := bindS h
    refine AWPF.rangeG3 (T := 7) (Bk := fun e_27 : (List Int) => ⟨3,true,e_27.flatMap eW⟩) (σ := fun _ => 5) (Hp := fun x_110 : (List Int) × (List R56) => [(3,⟨22,false,[.own 2 1 0 x_110.1.length]⟩),(4,⟨53,false,[.own 6 2 0 x_110.2.length]⟩),(2,⟨3,true,x_110.1.flatMap eW⟩),(6,⟨57,true,x_110.2.flatMap e56⟩)]) (Hb := fun (e_27 : (List Int)) (x_110 : (List Int) × (List R56)) => [(7,⟨3,true,e_27.flatMap eW⟩),(3,⟨22,false,[.own 2 1 0 x_110.1.length]⟩),(4,⟨53,false,[.own 6 2 0 x_110.2.length]⟩),(2,⟨3,true,x_110.1.flatMap eW⟩),(6,⟨57,true,x_110.2.flatMap e56⟩)]) (env := [(6,.ptr 3 0),(9,.ptr 4 0)]) (x0 := (p_22,([] : List R56))) (KB := [3,4]) (envb := fun (e_27 : (List Int)) (x_110 : (List Int) × (List R56)) => [(6,.ptr 3 0),(9,.ptr 4 0),(10,.own 7 1 0 e_27.length)]) (M := fun _ _ => False) (i69 (β1 := false) n y_24 hy_26) (fun d_ => .tmp rfl) (fun d_ => .cons (.ren rfl) (.nil)) (.c rfl (.n)) rfl (.of rfl) (.of rfl) rfl h rfl (fun _ => rfl) (fun _ => rfl) (fun _ _ hv_ _ ht_ => ownT1 hv_ ht_) (fun l => ⟨by decide,fun _ => rfl,?_,?_⟩) (fun p_152 h => ?_) (fun _ _ h => h.elim)
    ·intro w0 Zs Zb T0 ι0 x_110 e_27
     refine AWP.vs ⟨[(6,.ptr 3 0),(9,.ptr 4 0),(46,.own 7 1 0 e_27.length)],[(7,⟨3,true,e_27.flatMap eW⟩),(3,⟨22,false,[.own 2 1 0 x_110.1.length]⟩),(4,⟨53,false,[.own 6 2 0 x_110.2.length]⟩),(2,⟨3,true,x_110.1.flatMap eW⟩),(6,⟨57,true,x_110.2.flatMap e56⟩)]⟩ rfl rfl ?_
     refine AWP.rg (.cons (.assign (lt1 rfl) (.t rfl))<| .nil _ _ _) ?_
     exact ⟨rfl,VC.sub (.of rfl) (.of rfl)⟩
    ·intro w0 Zs Zb T0 ι0 nx_111 x_110 e_27 h
     unfold m39_R4 at h
     refine AWP.block ?_
     refine AWP.seq ?_
     refine AWP.sv (.cons (.move (lt1 rfl) (.t rfl))<| .cons (.lenOwn (lt1 rfl) (.t rfl) Try.underlying22)<| .cons (.move (lt1 rfl) (.const _ _ _))<| .nil _ _ _) ⟨[(6,.ptr 3 0),(9,.ptr 4 0),(10,.own 7 1 0 e_27.length),(48,iW (e_27.length : Int)),(49,iW (0 : Int))],[(7,⟨3,true,e_27.flatMap eW⟩),(3,⟨22,false,[.own 2 1 0 x_110.1.length]⟩),(4,⟨53,false,[.own 6 2 0 x_110.2.length]⟩),(2,⟨3,true,x_110.1.flatMap eW⟩),(6,⟨57,true,x_110.2.flatMap e56⟩)]⟩ rfl rfl ?_
     refine AWP.joinB' (S := fun p_146 : (List Int) × (List Int) => ⟨[(6,.ptr 3 0),(9,.ptr 4 0),(10,.own 7 1 0 p_146.1.length)],[(3,⟨22,false,[.own 2 1 0 p_146.2.length]⟩),(4,⟨53,false,[.own 6 2 0 x_110.2.length]⟩),(7,⟨3,true,p_146.1.flatMap eW⟩),(2,⟨3,true,p_146.2.flatMap eW⟩),(6,⟨57,true,x_110.2.flatMap e56⟩)]⟩) h (fun p_146 h => ?_) (fun k_147 h => ?_)
     ·obtain ⟨y_148,hy_148,h⟩ := bindS h
      refine AWP.sv (.cons (.move (lt1 rfl) (.t rfl))<| .cons (.call0 (bw := true) (lt1 rfl) (c61x1 (β1 := true) n p_146.1 hy_148) (.cons (.t rfl) (.lendRow rfl rfl (encI_len .i64) rfl) (.cons (.func _ _ _) (.ren rfl) (.nil))) rfl)<| .nil _ _ _) ⟨[(6,.ptr 3 0),(9,.ptr 4 0),(10,.own 7 1 0 p_146.1.length),(77,bW y_148)],[(3,⟨22,false,[.own 2 1 0 p_146.2.length]⟩),(4,⟨53,false,[.own 6 2 0 x_110.2.length]⟩),(7,⟨3,true,p_146.1.flatMap eW⟩),(2,⟨3,true,p_146.2.flatMap eW⟩),(6,⟨57,true,x_110.2.flatMap e56⟩)]⟩ rfl rfl ?_
      refine AWP.join' (S := fun p_150 : (List R56) => ⟨[(6,.ptr 3 0),(9,.ptr 4 0)],[(3,⟨22,false,[.own 2 1 0 p_146.2.length]⟩),(4,⟨53,false,[.own 6 2 0 p_150.length]⟩),(2,⟨3,true,p_146.2.flatMap eW⟩),(6,⟨57,true,p_150.flatMap e56⟩)]⟩) h (fun p_150 h => ?_) (fun k_151 h => ?_)
      ·exact ⟨(p_146.2,p_150),VC.sub (.n _) (.of rfl),.inl ⟨rfl,h⟩⟩
      ·refine AWP.cond (.t rfl) (fun hc => ?_) (fun hc => ?_)
       ·have h := iteT hc h
        refine AWP.vc (VC.frz (d := 10) (t := 7) rfl rfl (encI_len .i64)) ?_
        obtain ⟨l6_149,hl6_149,h⟩ := bindS h
        refine AWP.rg (.cons (.loadP (lt1 rfl) (.t rfl) one53 rfl rfl rfl)<| .cons (.move (lt1 rfl) (.t rfl))<| .cons (.buildO (offs := [(0,1),(1,1)]) (lt1 rfl) (.cons (.t rfl) (by first | exact ⟨rfl,rfl⟩ | rfl) (.cons (.const _ _ _) (by first | exact ⟨rfl,rfl⟩ | rfl) (.nil))) zero57 offs57 rfl)<| .cons (.buildSlice (t := 8) (out := ([(R56.mk p_146.1 (1 : Int))] : List R56).flatMap e56) (lt1 rfl) (nm rfl) (.cons (.t rfl) (by first | exact ⟨rfl,rfl⟩ | rfl) (.nil)) Try.underlying53 zero57 el57 (by decide) (by decide) rfl (still_all encR56_still _))<| .cons (.app (enc := e56) (lt1 rfl) (nm rfl) (.t rfl) (Src.own (.t rfl) rfl (lendAll encR56_len _) (flatMap_length encR56_len _) (one_all encR56_one _) (.inl rfl)) Try.underlying53 ⟨_,Try.underlying53,by intro k hk; cases hk⟩ el57 rfl encR56_len rfl rfl (by decide) hl6_149)<| .cons (.storeP (.t rfl) (.t rfl) sz53 rfl (lt1 rfl) rfl (by intro h; cases h) rfl)<| .nil _ _ _) ?_
        exact endJ l6_149 h (VC.sub (.of rfl) (.of rfl))
       ·have h := iteF hc h
        refine AWP.skip ?_
        exact endJ x_110.2 h (VC.sub (.of rfl) (.of rfl))
     ·refine AWP.vs ⟨[(6,.ptr 3 0),(9,.ptr 4 0),(10,.own 7 1 0 e_27.length),(48,iW (e_27.length : Int)),(49,iW (0 : Int))],[(3,⟨22,false,[.own 2 1 0 x_110.1.length]⟩),(4,⟨53,false,[.own 6 2 0 x_110.2.length]⟩),(7,⟨3,true,e_27.flatMap eW⟩),(2,⟨3,true,x_110.1.flatMap eW⟩),(6,⟨57,true,x_110.2.flatMap e56⟩)]⟩ rfl rfl ?_
      refine AWP.loopM (S := fun x_134 : Int × (List Int) × (List Int) => ⟨[(6,.ptr 3 0),(9,.ptr 4 0),(10,.own 7 1 0 x_134.2.1.length),(48,iW (e_27.length : Int)),(49,iW x_134.1)],[(3,⟨22,false,[.own 2 1 0 x_134.2.2.length]⟩),(4,⟨53,false,[.own 6 2 0 x_110.2.length]⟩),(7,⟨3,true,x_134.2.1.flatMap eW⟩),(2,⟨3,true,x_134.2.2.flatMap eW⟩),(6,⟨57,true,x_110.2.flatMap e56⟩)]⟩) (x := ((0 : Int),e_27,x_110.1)) (fun nx_135 x_134 h => ?_) h
      unfold m39_L5 at h
      refine AWP.sv (.cons (.lss (lt1 rfl) (.t rfl) (.t rfl))<| .nil _ _ _) ⟨[(6,.ptr 3 0),(9,.ptr 4 0),(10,.own 7 1 0 x_134.2.1.length),(48,iW (e_27.length : Int)),(49,iW x_134.1),(50,bW (decide (x_134.1 < (e_27.length : Int))))],[(3,⟨22,false,[.own 2 1 0 x_134.2.2.length]⟩),(4,⟨53,false,[.own 6 2 0 x_110.2.length]⟩),(7,⟨3,true,x_134.2.1.flatMap eW⟩),(2,⟨3,true,x_134.2.2.flatMap eW⟩),(6,⟨57,true,x_110.2.flatMap e56⟩)]⟩ rfl rfl ?_
      refine AWP.seq ?_
      refine AWP.cond (.t rfl) (fun hc => ?_) (fun hc => ?_)
      ·have h := iteT hc h
       refine AWP.skip ?_
       refine AWP.seq ?_
       refine AWP.block ?_
       refine AWP.sv (.cons (.move (lt1 rfl) (.t rfl))<| .cons (.assign (lt1 rfl) (.t rfl))<| .nil _ _ _) ⟨[(6,.ptr 3 0),(9,.ptr 4 0),(10,.own 7 1 0 x_134.2.1.length),(48,iW (e_27.length : Int)),(49,iW x_134.1),(11,iW x_134.1)],[(3,⟨22,false,[.own 2 1 0 x_134.2.2.length]⟩),(4,⟨53,false,[.own 6 2 0 x_110.2.length]⟩),(7,⟨3,true,x_134.2.1.flatMap eW⟩),(2,⟨3,true,x_134.2.2.flatMap eW⟩),(6,⟨57,true,x_110.2.flatMap e56⟩)]⟩ rfl rfl ?_
       refine AWP.seq ?_
       obtain ⟨y_136,hy_136,h⟩ := bindS h
       obtain ⟨y_137,hy_137,h⟩ := bindS h
       obtain ⟨t12_138,ht12_138,h⟩ := letS h
       refine AWP.dw mixed [(6,.ptr 3 0),(9,.ptr 4 0),(10,.own 7 1 0 x_134.2.1.length),(11,iW x_134.1),(48,iW (e_27.length : Int)),(49,iW x_134.1)] [] [dO [2] 52 (.own 7 1 0 x_134.2.1.length),dO [3] 53 (iW x_134.1),dO [6,7] 54 (.ptr 7 (0 + (x_134.1).toNat * 1)),dO [8] 55 (iW y_136),dO [0] 56 (.own 2 1 0 x_134.2.2.length),dO [3] 57 (iW x_134.1),dO [10,11] 58 (.ptr 2 (0 + (x_134.1).toNat * 1)),dO [12] 59 (iW y_137),dO [9,13] 60 (iW (if y_137 < y_136 then y_137 else y_136)),dO [14] 12 (iW (if y_137 < y_136 then y_137 else y_136))] [] [[(3,⟨22,false,[.own 2 1 0 x_134.2.2.length]⟩),(4,⟨53,false,[.own 6 2 0 x_110.2.length]⟩),(7,⟨3,true,x_134.2.1.flatMap eW⟩),(2,⟨3,true,x_134.2.2.flatMap eW⟩),(6,⟨57,true,x_110.2.flatMap e56⟩)]] [[],[],[0,2],[0,3],[],[],[4,6],[4,7],[0,8],[0,9]] [0,1,2,3,15,4,5] rfl rfl (by kernel_rfl) rfl (.r rfl rfl (fun _ q => .move (lt1 rfl) (q.t 0 rfl))<| .p rfl (fun _ q _ => .move (lt1 rfl) (q.t 0 rfl))<| .r rfl rfl (fun _ q => .idxOwn (lt1 rfl) (q.t 0 rfl) (q.t 1 rfl) Try.underlying22 sz3 rfl hy_136)<| .r rfl rfl (fun _ q => .loadP (lt1 rfl) (q.t 0 rfl) one3 rfl (cell_at1 (encI_len .i64) hy_136) rfl)<| .r rfl rfl (fun _ q => .loadP (lt1 rfl) (q.t 0 rfl) one22 rfl rfl rfl)<| .p rfl (fun _ q _ => .move (lt1 rfl) (q.t 0 rfl))<| .r rfl rfl (fun _ q => .idxOwn (lt1 rfl) (q.t 0 rfl) (q.t 1 rfl) Try.underlying22 sz3 rfl hy_137)<| .r rfl rfl (fun _ q => .loadP (lt1 rfl) (q.t 0 rfl) one3 rfl (cell_at1 (encI_len .i64) hy_137) rfl)<| .p rfl (fun _ q _ => .min2 (lt1 rfl) (q.t 0 rfl) (q.t 1 rfl))<| .p rfl (fun _ q _ => .assign (lt1 rfl) (q.t 0 rfl))<| .nil _) rfl rfl ?_
       refine AWP.vc (s' := ⟨[(6,.ptr 3 0),(9,.ptr 4 0),(10,.own 7 1 0 x_134.2.1.length),(48,iW (e_27.length : Int)),(49,iW x_134.1),(11,iW x_134.1),(12,iW t12_138)],[(3,⟨22,false,[.own 2 1 0 x_134.2.2.length]⟩),(4,⟨53,false,[.own 6 2 0 x_110.2.length]⟩),(7,⟨3,true,x_134.2.1.flatMap eW⟩),(2,⟨3,true,x_134.2.2.flatMap eW⟩),(6,⟨57,true,x_110.2.flatMap e56⟩)]⟩) (by subst ht12_138; exact VC.sub (.of rfl) (.of rfl)) ?_
       obtain ⟨y_139,hy_139,h⟩ := bindS h
       obtain ⟨y_140,hy_140,h⟩ := bindS h
       obtain ⟨l7_141,hl7_141,h⟩ := bindS h
       refine AWP.sr (.cons (.move (lt1 rfl) (.t rfl))<| .cons (.move (lt1 rfl) (.t rfl))<| .cons (.idxOwn (lt1 rfl) (.t rfl) (.t rfl) Try.underlying22 sz3 rfl hy_139)<| .cons (.loadP (lt1 rfl) (.t rfl) one3 rfl (cell_at1 (encI_len .i64) hy_139) rfl)<| .cons (.move (lt1 rfl) (.t rfl))<| .cons (.sub (lt1 rfl) (.t rfl) (.t rfl))<| .cons (.idxOwn (lt1 rfl) (.t rfl) (.t rfl) Try.underlying22 sz3 rfl hy_140)<| .cons (.storeP (.t rfl) (.t rfl) sz3 rfl (lt_at1 (encI_len .i64) hy_140) rfl (fun _ => rfl) (set_at1 (encI_len .i64) hl7_141 rfl))<| .nil _ _ _) ?_
       refine AWP.vc (s' := ⟨[(6,.ptr 3 0),(9,.ptr 4 0),(10,.own 7 1 0 l7_141.length),(48,iW (e_27.length : Int)),(49,iW x_134.1),(11,iW x_134.1),(12,iW t12_138)],[(3,⟨22,false,[.own 2 1 0 x_134.2.2.length]⟩),(4,⟨53,false,[.own 6 2 0 x_110.2.length]⟩),(7,⟨3,true,l7_141.flatMap eW⟩),(2,⟨3,true,x_134.2.2.flatMap eW⟩),(6,⟨57,true,x_110.2.flatMap e56⟩)]⟩) (VC.sub (.c rfl<| .c rfl<| .c (lenC (Eq.symm (setLen hl7_141)) rfl)<| .c rfl<| .c rfl<| .c rfl<| .c rfl<| .n _) (.of rfl)) ?_
       obtain ⟨y_142,hy_142,h⟩ := bindS h
       obtain ⟨y_143,hy_143,h⟩ := bindS h
       obtain ⟨l2_144,hl2_144,h⟩ := bindS h
       refine AWP.rg (.cons (.loadP (lt1 rfl) (.t rfl) one22 rfl rfl rfl)<| .cons (.move (lt1 rfl) (.t rfl))<| .cons (.idxOwn (lt1 rfl) (.t rfl) (.t rfl) Try.underlying22 sz3 rfl hy_142)<| .cons (.loadP (lt1 rfl) (.t rfl) one3 rfl (cell_at1 (encI_len .i64) hy_142) rfl)<| .cons (.move (lt1 rfl) (.t rfl))<| .cons (.sub (lt1 rfl) (.t rfl) (.t rfl))<| .cons (.idxOwn (lt1 rfl) (.t rfl) (.t rfl) Try.underlying22 sz3 rfl hy_143)<| .cons (.storeP (.t rfl) (.t rfl) sz3 rfl (lt_at1 (encI_len .i64) hy_143) rfl (fun _ => rfl) (set_at1 (encI_len .i64) hl2_144 rfl))<| .vc (VC.cellEq (t := 3) (i := 0) (v' := .own 2 1 0 l2_144.length) rfl rfl rfl (congrArg (fun n_ => AV.own 2 1 0 n_) (Eq.symm (setLen hl2_144))))<| .nil _ _ _) ?_
       refine AWP.vs ⟨[(6,.ptr 3 0),(9,.ptr 4 0),(10,.own 7 1 0 l7_141.length),(48,iW (e_27.length : Int)),(49,iW x_134.1)],[(3,⟨22,false,[.own 2 1 0 l2_144.length]⟩),(4,⟨53,false,[.own 6 2 0 x_110.2.length]⟩),(7,⟨3,true,l7_141.flatMap eW⟩),(2,⟨3,true,l2_144.flatMap eW⟩),(6,⟨57,true,x_110.2.flatMap e56⟩)]⟩ rfl rfl ?_
       obtain ⟨t49_145,ht49_145,h⟩ := letS h
       refine AWP.rg (.cons (.add (lt1 rfl) (.t rfl) (.const _ _ _))<| .cons (.move (lt1 rfl) (.t rfl))<| .nil _ _ _) ?_
       exact endJ (t49_145,l7_141,l2_144) h (by subst ht49_145; exact VC.sub (.of rfl) (.of rfl))
      ·have h := iteF hc h
       refine AWP.exit ?_
       exact endJ (x_134.2.1,x_134.2.2) h (VC.sub (.of rfl) (.of rfl))
    ·refine AWPF.seq ?_
     obtain ⟨y_153,hy_153,h⟩ := bindS h
     refine AWPF.of fun d_ => AWP.rg (.cons (.loadP (lt1 rfl) (.t rfl) one53 rfl rfl rfl)<| .vc (VC.frz (d := 83) (t := 6) rfl rfl encR56_len)<| .cons (.call0 (bw := false) (lt1 rfl) (c31 n p_152.2 hy_153) (.cons (.t rfl) (.ren rfl) (.nil)) rfl)<| .cons (.assign (lt1 rfl) (.t rfl))<| .cons (.assign (lt1 rfl) (.const _ _ _))<| .nil _ _ _) ?_
     refine AWPF.ret ?_
     obtain rfl := Option.some.inj h
     refine ⟨.inl rfl,_,rfl,fun w0 Zs Zb T0 ι0 => (Res.vc (s' := ⟨[(4,rW false y_153 e56),(5,iW (0 : Int))],[]⟩) (VC.sub (.of rfl) (.n _)) ?_)⟩
     refine Res.drop (H := []) rfl ?_
     exact Res.of rfl (.cons (.tmp rfl) (.cons (.tmp rfl) (.nil))) rfl rfl
   ·refine AWPF.vc (s' := ⟨[(1,rW false a1 e56),(2,.ptr 1 0),(6,.ptr 3 0),(27,iW (y_1.1.length : Int)),(28,iW (0 : Int))],[(1,⟨32,false,(pW β1 β2 a0)⟩),(3,⟨22,false,[.own 2 1 0 y_1.1.length]⟩),(2,⟨3,true,y_1.1.flatMap eW⟩)]⟩) (fun d_ => VC.sub (.of rfl) (.of rfl)) ?_
    refine AWPF.loopM (S := fun x_15 : Int × (List Int) => ⟨[(1,rW false a1 e56),(2,.ptr 1 0),(6,.ptr 3 0),(27,iW (y_1.1.length : Int)),(28,iW x_15.1)],[(1,⟨32,false,(pW β1 β2 a0)⟩),(3,⟨22,false,[.own 2 1 0 x_15.2.length]⟩),(2,⟨3,true,x_15.2.flatMap eW⟩)]⟩) (x := ((0 : Int),y_1.1)) (fun nx_16 x_15 r h => ?_) h
    unfold m39_L1 at h
    refine AWPF.seq ?_
    refine AWPF.of fun d_ => AWP.rg (.cons (.lss (lt1 rfl) (.t rfl) (.t rfl))<| .nil _ _ _) ?_
    refine AWPF.vc (s' := ⟨[(1,rW false a1 e56),(2,.ptr 1 0),(6,.ptr 3 0),(27,iW (y_1.1.length : Int)),(28,iW x_15.1),(29,bW (decide (x_15.1 < (y_1.1.length : Int))))],[(1,⟨32,false,(pW β1 β2 a0)⟩),(3,⟨22,false,[.own 2 1 0 x_15.2.length]⟩),(2,⟨3,true,x_15.2.flatMap eW⟩)]⟩) (fun d_ => VC.sub (.of rfl) (.of rfl)) ?_
    refine AWPF.seq ?_
    refine AWPF.cond (fun d_ => .tmp rfl) (fun hc => ?_) (fun hc => ?_)
    ·have h := iteT hc h
     refine AWPF.skip ?_
     refine AWPF.seq ?_
     refine AWPF.block ?_
     refine AWPF.seq ?_
     refine AWPF.of fun d_ => AWP.rg (.cons (.move (lt1 rfl) (.t rfl))<| .cons (.assign (lt1 rfl) (.t rfl))<| .nil _ _ _) ?_
     refine AWPF.vc (s' := ⟨[(1,rW false a1 e56),(2,.ptr 1 0),(6,.ptr 3 0),(27,iW (y_1.1.length : Int)),(28,iW x_15.1),(8,iW x_15.1)],[(1,⟨32,false,(pW β1 β2 a0)⟩),(3,⟨22,false,[.own 2 1 0 x_15.2.length]⟩),(2,⟨3,true,x_15.2.flatMap eW⟩)]⟩) (fun d_ => VC.sub (.of rfl) (.of rfl)) ?_
     obtain ⟨y_17,hy_17,h⟩ := bindS h
     obtain ⟨y_18,hy_18,h⟩ := bindS h
     obtain ⟨y_19,hy_19,h⟩ := bindS h
     obtain ⟨l2_20,hl2_20,h⟩ := bindS h
     refine AWPF.of fun d_ => AWP.draw (s' := ⟨[(1,rW false a1 e56),(2,.ptr 1 0),(6,.ptr 3 0),(27,iW (y_1.1.length : Int)),(28,iW x_15.1)],[(1,⟨32,false,(pW β1 β2 a0)⟩),(3,⟨22,false,[.own 2 1 0 l2_20.length]⟩),(2,⟨3,true,l2_20.flatMap eW⟩)]⟩) mixed [⟨1,rW false a1 e56,none,[]⟩,⟨2,.ptr 1 0,none,[]⟩,⟨6,.ptr 3 0,none,[]⟩,⟨8,iW x_15.1,none,[]⟩,⟨27,iW (y_1.1.length : Int),none,[]⟩,⟨28,iW x_15.1,none,[]⟩,⟨31,.own 2 1 0 x_15.2.length,some 0,[]⟩,⟨32,iW x_15.1,some 1,[]⟩,⟨33,.ptr 2 (0 + (x_15.1).toNat * 1),some 2,[]⟩,⟨34,iW y_17,some 3,[]⟩,⟨35,.ptr 1 (0 + 1),some 4,[]⟩,⟨36,rW β2 a0.Dq eW,some 5,[]⟩,⟨37,iW x_15.1,some 6,[]⟩,⟨38,.rptr β2 [iW y_18],some 7,[]⟩,⟨39,iW y_18,some 8,[]⟩,⟨40,iW (IntKind.wrap .i64 (y_17 - y_18)),some 9,[]⟩,⟨41,.ptr 2 (0 + (x_15.1).toNat * 1),some 10,[]⟩] [⟨[2],0,0,some (31,.own 2 1 0 x_15.2.length),[]⟩,⟨[3],0,1,some (32,iW x_15.1),[]⟩,⟨[6,7],0,0,some (33,.ptr 2 (0 + (x_15.1).toNat * 1)),[]⟩,⟨[8],0,0,some (34,iW y_17),[]⟩,⟨[1],0,0,some (35,.ptr 1 (0 + 1)),[]⟩,⟨[10],0,0,some (36,rW β2 a0.Dq eW),[]⟩,⟨[3],0,1,some (37,iW x_15.1),[]⟩,⟨[11,12],0,1,some (38,.rptr β2 [iW y_18]),[]⟩,⟨[13],0,1,some (39,iW y_18),[]⟩,⟨[9,14],0,1,some (40,iW (IntKind.wrap .i64 (y_17 - y_18))),[]⟩,⟨[6,7],0,0,some (41,.ptr 2 (0 + (x_15.1).toNat * 1)),[]⟩,⟨[16,15],0,0,none,[]⟩] [11] [[(1,⟨32,false,(pW β1 β2 a0)⟩),(3,⟨22,false,[.own 2 1 0 x_15.2.length]⟩),(2,⟨3,true,x_15.2.flatMap eW⟩)],[(1,⟨32,false,(pW β1 β2 a0)⟩),(3,⟨22,false,[.own 2 1 0 l2_20.length]⟩),(2,⟨3,true,l2_20.flatMap eW⟩)]] [[],[],[0,1],[0,1,2],[],[4],[],[4,5,6],[4,5,6,7],[0,1,2,3,4,5,6,7,8],[0,1,2,3,4,5,6,7,8,9],[0,1,2,3,4,5,6,7,8,9,10]] (by kernel_rfl) (by kernel_rfl) (BornL.ok (.o<| .o<| .o<| .o<| .o<| .o<| .b rfl rfl<| .b rfl rfl<| .b rfl rfl<| .b rfl rfl<| .b rfl rfl<| .b rfl rfl<| .b rfl rfl<| .b rfl rfl<| .b rfl rfl<| .b rfl rfl<| .b rfl rfl<| .n)) (BaseL.ok (.o rfl<| .o rfl<| .o rfl<| .o rfl<| .o rfl<| .o rfl<| .b<| .b<| .b<| .b<| .b<| .b<| .b<| .b<| .b<| .b<| .b<| .n)) rfl (by decide) (allLt rfl) (.read rfl (.c (.put (fun E hE => .loadP (lt1 rfl) (hE.t 0 rfl) one22 rfl rfl rfl)) (.n))<| .pure rfl (fun H => .put (fun E hE => .move (lt1 rfl) (hE.t 0 rfl)))<| .read rfl (.c (.put (fun E hE => .idxOwn (lt1 rfl) (hE.t 0 rfl) (hE.t 1 rfl) Try.underlying22 sz3 rfl hy_17)) (.n))<| .read rfl (.c (.put (fun E hE => .loadP (lt1 rfl) (hE.t 0 rfl) one3 rfl (cell_at1 (encI_len .i64) hy_17) rfl)) (.n))<| .read rfl (.c (.put (fun E hE => .fieldP (lt1 rfl) (hE.t 0 rfl) fld32_1)) (.n))<| .read rfl (.c (.put (fun E hE => .loadP (lt1 rfl) (hE.t 0 rfl) one22 rfl rfl rfl)) (.n))<| .pure rfl (fun H => .put (fun E hE => .move (lt1 rfl) (hE.t 0 rfl)))<| .pure rfl (fun H => .put (fun E hE => .indexRd (enc := eW) (lt1 rfl) (hE.t 0 rfl) (hE.t 1 rfl) Try.underlying22 sz3 (encI_len .i64) rfl hy_18))<| .pure rfl (fun H => .put (fun E hE => .loadR (v := iW y_18) (lt1 rfl) (hE.t 0 rfl) one3 rfl))<| .pure rfl (fun H => .put (fun E hE => .sub (lt1 rfl) (hE.t 0 rfl) (hE.t 1 rfl)))<| .read rfl (.c (.put (fun E hE => .idxOwn (lt1 rfl) (hE.t 0 rfl) (hE.t 1 rfl) Try.underlying22 sz3 rfl hy_19)) (.n))<| .turn rfl rfl rfl rfl rfl (.store (fun E hE => .storeP (hE.t 0 rfl) (hE.t 1 rfl) sz3 rfl (lt_at1 (encI_len .i64) hy_19) rfl (fun _ => rfl) (set_at1 (encI_len .i64) hl2_20 rfl)) (congrArg (fun n_ : Nat => ([(1,⟨32,false,(pW β1 β2 a0)⟩),(3,⟨22,false,[.own 2 1 0 n_]⟩),(2,⟨3,true,l2_20.flatMap eW⟩)] : List (Nat × Blk))) (setLen hl2_20)))<| .nil _) (fun E hE => .c (DInv.at hE (k := 0) rfl rfl rfl)<| .c (DInv.at hE (k := 1) rfl rfl rfl)<| .c (DInv.at hE (k := 2) rfl rfl rfl)<| .c (DInv.at hE (k := 4) rfl rfl rfl)<| .c (DInv.at hE (k := 5) rfl rfl rfl)<| .n _) rfl ?_
     refine AWPF.vc (s' := ⟨[(1,rW false a1 e56),(2,.ptr 1 0),(6,.ptr 3 0),(27,iW (y_1.1.length : Int)),(28,iW x_15.1)],[(1,⟨32,false,(pW β1 β2 a0)⟩),(3,⟨22,false,[.own 2 1 0 l2_20.length]⟩),(2,⟨3,true,l2_20.flatMap eW⟩)]⟩) (fun d_ => VC.sub (.of rfl) (.of rfl)) ?_
     obtain ⟨t28_21,ht28_21,h⟩ := letS h
     refine AWPF.of fun d_ => AWP.rg (.cons (.add (lt1 rfl) (.t rfl) (.const _ _ _))<| .cons (.move (lt1 rfl) (.t rfl))<| .nil _ _ _) ?_
     exact endJF (t28_21,l2_20) h (fun d_ => by subst ht28_21; exact VC.sub (.of rfl) (.of rfl))
    ·have h := iteF hc h
     refine AWPF.exit ?_
     exact endJF x_15.2 h (fun d_ => VC.sub (.of rfl) (.of rfl))
theorem c38o {β1 : Bool} {β2 : Bool} {β3 : Bool} (n : Nat) (a0 : R23) (a1 : (List R56)) {r : ((List Int) × Int)} (h : m38o n a0 a1 = some r) : Spec Try.prog 38 [] [.agg (pW β1 β2 a0),rW β3 a1 e56] [] (.tup [.own 2 1 0 r.1.length,iW r.2]) [(2,⟨3,true,r.1.flatMap eW⟩)] := by
 refine Spec.of (fn := Try.f38) Try.func38 Try.ntmps38 rfl rfl (le1 rfl) (fun w0 Zs Zb T0 ι0 => ?_)
 unfold m38o at h
 refine AWP.sv (.cons (.box (t := 1) (n := 4) (lt1 rfl) (nm rfl) (.t rfl) (by first | exact ⟨rfl,rfl⟩ | rfl) rfl)<| .cons (.assign (lt1 rfl) (.const _ _ _))<| .cons (.assign (lt1 rfl) (.const _ _ _))<| .nil _ _ _) ⟨[(1,rW β3 a1 e56),(2,.ptr 1 0)],[(1,⟨24,false,(pW β1 β2 a0)⟩)]⟩ rfl rfl ?_
 refine AWP.seq ?_
 obtain ⟨y_1,hy_1,h⟩ := bindS h
 refine AWP.sv (.cons (.loadPA (lt1 rfl) (.t rfl) agg24 rfl rfl rfl rfl)<| .cons (.move (lt1 rfl) (.t rfl))<| .cons (.call0 (bw := false) (lt1 rfl) (c30 (β1 := β1) (β2 := β2) (β3 := β3) n (R23.mk a0.Lq a0.Dq a0.Sq a0.Kq) a1 hy_1) (.cons (.t rfl) (.ren rfl) (.cons (.t rfl) (.ren rfl) (.nil))) rfl)<| .cons (.not (lt1 rfl) (.t rfl))<| .nil _ _ _) ⟨[(1,rW β3 a1 e56),(2,.ptr 1 0),(12,bW (!y_1))],[(1,⟨24,false,(pW β1 β2 a0)⟩)]⟩ rfl rfl ?_
 refine AWP.cond (.t rfl) (fun hc => ?_) (fun hc => ?_)
 ·have h := iteT hc h
  refine AWP.sr (.cons (.assign (lt1 rfl) (.const _ _ _))<| .cons (.assign (lt1 rfl) (.const _ _ _))<| .nil _ _ _) ?_
  refine AWP.ret ?_
  obtain rfl := Option.some.inj h
  refine retJ (Res.vc (s' := ⟨[(4,.own 2 1 0 ([] : List Int).length),(5,iW (1 : Int))],[(2,⟨3,true,([] : List Int).flatMap eW⟩)]⟩) (VC.trans (VC.nilOwn (d := 4) (t := 2) (sz := 1) (E := 3) rfl (nm rfl)) (VC.sub (.of rfl) (.of rfl))) ?_)
  refine Res.sub (H := [(2,⟨3,true,([] : List Int).flatMap eW⟩)]) (.of rfl) ?_
  exact Res.of rfl (.cons (.tmp rfl) (.cons (.tmp rfl) (.nil))) rfl rfl
 ·have h := iteF hc h
  refine AWP.skip ?_
  obtain ⟨l2_2,hl2_2,h⟩ := bindS h
  refine AWP.sv (.cons (.fieldP (lt1 rfl) (.t rfl) fld24_0)<| .cons (.loadP (lt1 rfl) (.t rfl) one22 rfl rfl rfl)<| .cons (.lenRd (lt1 rfl) (.t rfl) Try.underlying22)<| .cons (.mkS (enc := eW) (t := 2) (lt1 rfl) (nm rfl) (.t rfl) (.t rfl) Try.underlying22 zero3 el3 rfl (encI_len .i64) (by decide) hl2_2)<| .cons (.assign (lt1 rfl) (.t rfl))<| .nil _ _ _) ⟨[(1,rW β3 a1 e56),(6,.own 2 1 0 l2_2.length)],[(2,⟨3,true,l2_2.flatMap eW⟩)]⟩ rfl rfl ?_
  refine AWP.seq ?_
  refine AWP.sv (.cons (.assign (lt1 rfl) (.const _ _ _))<| .nil _ _ _) ⟨[(1,rW β3 a1 e56),(6,.own 2 1 0 l2_2.length),(7,iW (0 : Int))],[(2,⟨3,true,l2_2.flatMap eW⟩)]⟩ rfl rfl ?_
  refine AWP.joinB' (S := fun p_91 : (List Int) => ⟨[(6,.own 2 1 0 p_91.length)],[(2,⟨3,true,p_91.flatMap eW⟩)]⟩) h (fun p_91 h => ?_) (fun k_92 h => ?_)
  ·refine AWP.sr (.cons (.move (lt1 rfl) (.t rfl))<| .cons (.assign (lt1 rfl) (.t rfl))<| .cons (.assign (lt1 rfl) (.const _ _ _))<| .nil _ _ _) ?_
   refine AWP.ret ?_
   obtain rfl := Option.some.inj h
   refine retJ (Res.vc (s' := ⟨[(4,.own 2 1 0 p_91.length),(5,iW (0 : Int))],[(2,⟨3,true,p_91.flatMap eW⟩)]⟩) (VC.sub (.of rfl) (.of rfl)) ?_)
   refine Res.sub (H := [(2,⟨3,true,p_91.flatMap eW⟩)]) (.of rfl) ?_
   exact Res.of rfl (.cons (.tmp rfl) (.cons (.tmp rfl) (.nil))) rfl rfl
  ·refine AWP.vs ⟨[(1,rW β3 a1 e56),(6,.own 2 1 0 l2_2.length),(7,iW (0 : Int))],[(2,⟨3,true,l2_2.flatMap eW⟩)]⟩ rfl rfl ?_
   refine AWP.loopM (S := fun x_61 : Int × (List Int) => ⟨[(1,rW β3 a1 e56),(6,.own 2 1 0 x_61.2.length),(7,iW x_61.1)],[(2,⟨3,true,x_61.2.flatMap eW⟩)]⟩) (x := ((0 : Int),l2_2)) (fun nx_62 x_61 h => ?_) h
   unfold m38o_L3 at h
   refine AWP.seq ?_
   refine AWP.sv (.cons (.move (lt1 rfl) (.t rfl))<| .cons (.move (lt1 rfl) (.t rfl))<| .cons (.lenRd (lt1 rfl) (.t rfl) Try.underlying49)<| .cons (.lss (lt1 rfl) (.t rfl) (.t rfl))<| .nil _ _ _) ⟨[(1,rW β3 a1 e56),(6,.own 2 1 0 x_61.2.length),(7,iW x_61.1),(20,bW (decide (x_61.1 < (a1.length : Int))))],[(2,⟨3,true,x_61.2.flatMap eW⟩)]⟩ rfl rfl ?_
   refine AWP.cond (.t rfl) (fun hc => ?_) (fun hc => ?_)
   ·have h := iteT hc h
    refine AWP.skip ?_
    refine AWP.seq ?_
    refine AWP.block ?_
    refine AWP.sv (.cons (.assign (lt1 rfl) (.const _ _ _))<| .nil _ _ _) ⟨[(1,rW β3 a1 e56),(6,.own 2 1 0 x_61.2.length),(7,iW x_61.1),(8,iW (0 : Int))],[(2,⟨3,true,x_61.2.flatMap eW⟩)]⟩ rfl rfl ?_
    refine AWP.joinB' (S := fun p_88 : (List Int) => ⟨[(1,rW β3 a1 e56),(6,.own 2 1 0 p_88.length),(7,iW x_61.1)],[(2,⟨3,true,p_88.flatMap eW⟩)]⟩) h (fun p_88 h => ?_) (fun k_89 h => ?_)
    ·obtain ⟨t7_90,ht7_90,h⟩ := letS h
     refine AWP.rg (.cons (.move (lt1 rfl) (.t rfl))<| .cons (.add (lt1 rfl) (.t rfl) (.const _ _ _))<| .cons (.assign (lt1 rfl) (.t rfl))<| .nil _ _ _) ?_
     exact endJ (t7_90,p_88) h (by subst ht7_90; exact VC.sub (.of rfl) (.of rfl))
    ·refine AWP.vs ⟨[(1,rW β3 a1 e56),(6,.own 2 1 0 x_61.2.length),(7,iW x_61.1),(8,iW (0 : Int))],[(2,⟨3,true,x_61.2.flatMap eW⟩)]⟩ rfl rfl ?_
     refine AWP.loopM (S := fun x_79 : Int × (List Int) => ⟨[(1,rW β3 a1 e56),(6,.own 2 1 0 x_79.2.length),(7,iW x_61.1),(8,iW x_79.1)],[(2,⟨3,true,x_79.2.flatMap eW⟩)]⟩) (x := ((0 : Int),x_61.2)) (fun nx_80 x_79 h => ?_) h
     unfold m38o_L4 at h
     refine AWP.seq ?_
     refine AWP.sv (.cons (.move (lt1 rfl) (.t rfl))<| .cons (.move (lt1 rfl) (.t rfl))<| .cons (.lenOwn (lt1 rfl) (.t rfl) Try.underlying22)<| .cons (.lss (lt1 rfl) (.t rfl) (.t rfl))<| .nil _ _ _) ⟨[(1,rW β3 a1 e56),(6,.own 2 1 0 x_79.2.length),(7,iW x_61.1),(8,iW x_79.1),(26,bW (decide (x_79.1 < (x_79.2.length : Int))))],[(2,⟨3,true,x_79.2.flatMap eW⟩)]⟩ rfl rfl ?_
     refine AWP.cond (.t rfl) (fun hc => ?_) (fun hc => ?_)
     ·have h := iteT hc h
      refine AWP.skip ?_
      refine AWP.seq ?_
      refine AWP.block ?_
      obtain ⟨y_81,hy_81,h⟩ := bindS h
      obtain ⟨y_82,hy_82,h⟩ := bindS h
      obtain ⟨y_83,hy_83,h⟩ := bindS h
      obtain ⟨y_84,hy_84,h⟩ := bindS h
      obtain ⟨y_85,hy_85,h⟩ := bindS h
      obtain ⟨l2_86,hl2_86,h⟩ := bindS h
      refine AWP.dw mixed [(1,rW β3 a1 e56),(6,.own 2 1 0 x_79.2.length),(7,iW x_61.1),(8,iW x_79.1),(26,bW (decide (x_79.1 < (x_79.2.length : Int))))] [] [dO [1] 29 (.own 2 1 0 x_79.2.length),⟨[3],0,1,some (30,iW x_79.1),[]⟩,dO [5,6] 31 (.ptr 2 (0 + (x_79.1).toNat * 1)),dO [7] 32 (iW y_81),⟨[0],0,1,some (33,rW β3 a1 e56),[]⟩,⟨[2],0,1,some (34,iW x_61.1),[]⟩,⟨[9,10],0,1,some (35,.rptr β3 [rW false y_82.Pq eW,iW y_82.Cq]),[]⟩,⟨[11],0,1,some (36,.rptr β3 [rW false y_82.Pq eW,iW y_82.Cq]),[]⟩,⟨[12],0,1,some (37,rW β3 y_82.Pq eW),[]⟩,⟨[3],0,1,some (38,iW x_79.1),[]⟩,⟨[13,14],0,1,some (39,.rptr β3 [iW y_83]),[]⟩,⟨[15],0,1,some (40,iW y_83),[]⟩,⟨[0],0,1,some (41,rW β3 a1 e56),[]⟩,⟨[2],0,1,some (42,iW x_61.1),[]⟩,⟨[17,18],0,1,some (43,.rptr β3 [rW false y_84.Pq eW,iW y_84.Cq]),[]⟩,⟨[19],0,1,some (44,.rptr β3 [iW y_84.Cq]),[]⟩,⟨[20],0,1,some (45,iW y_84.Cq),[]⟩,⟨[16,21],0,1,some (46,iW (IntKind.wrap .i64 (y_83 * y_84.Cq))),[]⟩,⟨[8,22],0,1,some (47,iW (IntKind.wrap .i64 (y_81 + (IntKind.wrap .i64 (y_83 * y_84.Cq))))),[]⟩,dO [5,6] 48 (.ptr 2 (0 + (x_79.1).toNat * 1)),⟨[24,23],0,0,none,[]⟩] [20] [[(2,⟨3,true,x_79.2.flatMap eW⟩)],[(2,⟨3,true,l2_86.flatMap eW⟩)]] [[],[],[0,2],[0,3],[],[],[4,6],[4,7],[4,8],[],[4,10],[4,11],[],[],[12,14],[12,15],[12,16],[4,17],[0,18],[0,19],[0,20]] [0,1,2,3] rfl rfl (by kernel_rfl) rfl (.read rfl (.c (.put (fun E hE => .move (lt1 rfl) (hE.t 0 rfl))) (.n))<| .p rfl (fun _ q _ => .move (lt1 rfl) (q.t 0 rfl))<| .read rfl (.c (.put (fun E hE => .idxOwn (lt1 rfl) (hE.t 0 rfl) (hE.t 1 rfl) Try.underlying22 sz3 rfl hy_81)) (.n))<| .read rfl (.c (.put (fun E hE => .loadP (lt1 rfl) (hE.t 0 rfl) one3 rfl (cell_at1 (encI_len .i64) hy_81) rfl)) (.n))<| .p rfl (fun _ q _ => .move (lt1 rfl) (q.t 0 rfl))<| .p rfl (fun _ q _ => .move (lt1 rfl) (q.t 0 rfl))<| .p rfl (fun _ q _ => .indexRd (enc := e56) (lt1 rfl) (q.t 0 rfl) (q.t 1 rfl) Try.underlying49 sz78 encR56_len rfl hy_82)<| .p rfl (fun _ q _ => .fieldR (lt1 rfl) (q.t 0 rfl) fld78_0 rfl)<| .p rfl (fun _ q _ => .loadR (v := rW β3 y_82.Pq eW) (lt1 rfl) (q.t 0 rfl) one22 rfl)<| .p rfl (fun _ q _ => .move (lt1 rfl) (q.t 0 rfl))<| .p rfl (fun _ q _ => .indexRd (enc := eW) (lt1 rfl) (q.t 0 rfl) (q.t 1 rfl) Try.underlying22 sz3 (encI_len .i64) rfl hy_83)<| .p rfl (fun _ q _ => .loadR (v := iW y_83) (lt1 rfl) (q.t 0 rfl) one3 rfl)<| .p rfl (fun _ q _ => .move (lt1 rfl) (q.t 0 rfl))<| .p rfl (fun _ q _ => .move (lt1 rfl) (q.t 0 rfl))<| .p rfl (fun _ q _ => .indexRd (enc := e56) (lt1 rfl) (q.t 0 rfl) (q.t 1 rfl) Try.underlying49 sz78 encR56_len rfl hy_84)<| .p rfl (fun _ q _ => .fieldR (lt1 rfl) (q.t 0 rfl) fld78_1 rfl)<| .p rfl (fun _ q _ => .loadR (v := iW y_84.Cq) (lt1 rfl) (q.t 0 rfl) one3 rfl)<| .p rfl (fun _ q _ => .mul (lt1 rfl) (q.t 0 rfl) (q.t 1 rfl))<| .p rfl (fun _ q _ => .add (lt1 rfl) (q.t 0 rfl) (q.t 1 rfl))<| .read rfl (.c (.put (fun E hE => .idxOwn (lt1 rfl) (hE.t 0 rfl) (hE.t 1 rfl) Try.underlying22 sz3 rfl hy_85)) (.n))<| .turn rfl rfl rfl rfl rfl (.store (fun E hE => .storeP (hE.t 0 rfl) (hE.t 1 rfl) sz3 rfl (lt_at1 (encI_len .i64) hy_85) rfl (fun _ => rfl) (set_at1 (encI_len .i64) hl2_86 rfl)) rfl)<| .nil _) rfl rfl ?_
      refine AWP.vc (s' := ⟨[(1,rW β3 a1 e56),(6,.own 2 1 0 l2_86.length),(7,iW x_61.1),(8,iW x_79.1)],[(2,⟨3,true,l2_86.flatMap eW⟩)]⟩) (VC.sub (.c rfl<| .c (lenC (Eq.symm (setLen hl2_86)) rfl)<| .c rfl<| .c rfl<| .n _) (.of rfl)) ?_
      obtain ⟨t8_87,ht8_87,h⟩ := letS h
      refine AWP.rg (.cons (.move (lt1 rfl) (.t rfl))<| .cons (.add (lt1 rfl) (.t rfl) (.const _ _ _))<| .cons (.assign (lt1 rfl) (.t rfl))<| .nil _ _ _) ?_
      exact endJ (t8_87,l2_86) h (by subst ht8_87; exact VC.sub (.of rfl) (.of rfl))
     ·have h := iteF hc h
      refine AWP.exit ?_
      exact endJ x_79.2 h (VC.sub (.of rfl) (.of rfl))
   ·have h := iteF hc h
    refine AWP.exit ?_
    exact endJ x_61.2 h (VC.sub (.of rfl) (.of rfl))
theorem c42 {β1 : Bool} {β2 : Bool} {β3 : Bool} (n : Nat) (a0 : R23) (a1 : (List R56)) {r : Bool} (h : m42 n a0 a1 = some r) : Spec Try.prog 42 [] [.agg (pW β1 β2 a0),rW β3 a1 e56] [] (bW r) [] := by
 refine Spec.of (fn := Try.f42) Try.func42 Try.ntmps42 rfl rfl (le1 rfl) (fun w0 Zs Zb T0 ι0 => ?_)
 unfold m42 at h
 refine AWP.sv (.cons (.box (t := 1) (n := 4) (lt1 rfl) (nm rfl) (.t rfl) (by first | exact ⟨rfl,rfl⟩ | rfl) rfl)<| .cons (.assign (lt1 rfl) (.const _ _ _))<| .nil _ _ _) ⟨[(1,rW β3 a1 e56),(2,.ptr 1 0)],[(1,⟨24,false,(pW β1 β2 a0)⟩)]⟩ rfl rfl ?_
 obtain ⟨y_1,hy_1,h⟩ := bindS h
 refine AWP.sv (.cons (.loadPA (lt1 rfl) (.t rfl) agg24 rfl rfl rfl rfl)<| .cons (.move (lt1 rfl) (.t rfl))<| .cons (.call0 (bw := false) (lt1 rfl) (c38 (β1 := β1) (β2 := β2) (β3 := β3) n (R23.mk a0.Lq a0.Dq a0.Sq a0.Kq) a1 hy_1) (.cons (.t rfl) (.ren rfl) (.cons (.t rfl) (.ren rfl) (.nil))) rfl)<| .cons (.move (lt1 rfl) (.t rfl))<| .cons (.extract (lt1 rfl) (.t rfl) rfl)<| .cons (.extract (lt1 rfl) (.t rfl) rfl)<| .cons (.assign (lt1 rfl) (.t rfl))<| .cons (.assign (lt1 rfl) (.t rfl))<| .nil _ _ _) ⟨[(2,.ptr 1 0),(5,rW false y_1.1 eW),(6,iW y_1.2)],[(1,⟨24,false,(pW β1 β2 a0)⟩)]⟩ rfl rfl ?_
 refine AWP.seq ?_
 refine AWP.sv (.cons (.move (lt1 rfl) (.t rfl))<| .cons (.neq (lt1 rfl) (.t rfl) (.const _ _ _))<| .nil _ _ _) ⟨[(2,.ptr 1 0),(5,rW false y_1.1 eW),(15,bW (!decide (y_1.2 = (0 : Int))))],[(1,⟨24,false,(pW β1 β2 a0)⟩)]⟩ rfl rfl ?_
 refine AWP.cond (.t rfl) (fun hc => ?_) (fun hc => ?_)
 ·have h := iteT hc h
  refine AWP.sr (.cons (.assign (lt1 rfl) (.const _ _ _))<| .nil _ _ _) ?_
  refine AWP.ret ?_
  obtain rfl := Option.some.inj h
  refine retJ (Res.vc (s' := ⟨[(4,bW false)],[]⟩) (VC.sub (.of rfl) (.n _)) ?_)
  refine Res.drop (H := []) rfl ?_
  exact Res.of rfl (.cons (.tmp rfl) (.nil)) rfl rfl
 ·have h := iteF hc h
  refine AWP.skip ?_
  refine AWP.seq ?_
  refine AWP.sv (.cons (.assign (lt1 rfl) (.const _ _ _))<| .nil _ _ _) ⟨[(2,.ptr 1 0),(5,rW false y_1.1 eW),(7,iW (0 : Int))],[(1,⟨24,false,(pW β1 β2 a0)⟩)]⟩ rfl rfl ?_
  refine AWP.joinB' (S := fun p_11 : Unit => ⟨[],[]⟩) h (fun p_11 h => ?_) (fun k_12 h => ?_)
  ·refine AWP.sr (.cons (.assign (lt1 rfl) (.const _ _ _))<| .nil _ _ _) ?_
   refine AWP.ret ?_
   obtain rfl := Option.some.inj h
   refine retJ (Res.vc (s' := ⟨[(4,bW true)],[]⟩) (VC.sub (.of rfl) (.n _)) ?_)
   refine Res.drop (H := []) rfl ?_
   exact Res.of rfl (.cons (.tmp rfl) (.nil)) rfl rfl
  ·refine AWP.vs ⟨[(2,.ptr 1 0),(5,rW false y_1.1 eW),(7,iW (0 : Int))],[(1,⟨24,false,(pW β1 β2 a0)⟩)]⟩ rfl rfl ?_
   refine AWP.loopM (S := fun x_6 : Int => ⟨[(2,.ptr 1 0),(5,rW false y_1.1 eW),(7,iW x_6)],[(1,⟨24,false,(pW β1 β2 a0)⟩)]⟩) (x := (0 : Int)) (fun nx_7 x_6 h => ?_) h
   unfold m42_L1 at h
   refine AWP.seq ?_
   refine AWP.sv (.cons (.move (lt1 rfl) (.t rfl))<| .cons (.move (lt1 rfl) (.t rfl))<| .cons (.lenRd (lt1 rfl) (.t rfl) Try.underlying22)<| .cons (.lss (lt1 rfl) (.t rfl) (.t rfl))<| .nil _ _ _) ⟨[(2,.ptr 1 0),(5,rW false y_1.1 eW),(7,iW x_6),(19,bW (decide (x_6 < (y_1.1.length : Int))))],[(1,⟨24,false,(pW β1 β2 a0)⟩)]⟩ rfl rfl ?_
   refine AWP.cond (.t rfl) (fun hc => ?_) (fun hc => ?_)
   ·have h := iteT hc h
    refine AWP.skip ?_
    refine AWP.seq ?_
    refine AWP.block ?_
    refine AWP.seq ?_
    obtain ⟨y_8,hy_8,h⟩ := bindS h
    obtain ⟨y_9,hy_9,h⟩ := bindS h
    refine AWP.dw mixed [(2,.ptr 1 0),(5,rW false y_1.1 eW),(7,iW x_6),(19,bW (decide (x_6 < (y_1.1.length : Int))))] [] [dO [1] 22 (rW false y_1.1 eW),dO [2] 23 (iW x_6),dO [4,5] 24 (.rptr false [iW y_8]),dO [6] 25 (iW y_8),dO [0] 26 (.ptr 1 (0 + 1)),dO [8] 27 (rW β2 a0.Dq eW),dO [2] 28 (iW x_6),dO [9,10] 29 (.rptr β2 [iW y_9]),dO [11] 30 (iW y_9),dO [7,12] 31 (bW (decide (y_8 < y_9)))] [] [[(1,⟨24,false,(pW β1 β2 a0)⟩)]] [[],[],[0,2],[0,3],[],[4,5],[],[4,7],[4,8],[0,9]] [0,1,2,13] rfl rfl (by kernel_rfl) rfl (.p rfl (fun _ q _ => .move (lt1 rfl) (q.t 0 rfl))<| .p rfl (fun _ q _ => .move (lt1 rfl) (q.t 0 rfl))<| .p rfl (fun _ q _ => .indexRd (enc := eW) (lt1 rfl) (q.t 0 rfl) (q.t 1 rfl) Try.underlying22 sz3 (encI_len .i64) rfl hy_8)<| .p rfl (fun _ q _ => .loadR (v := iW y_8) (lt1 rfl) (q.t 0 rfl) one3 rfl)<| .r rfl rfl (fun _ q => .fieldP (lt1 rfl) (q.t 0 rfl) fld24_1)<| .r rfl rfl (fun _ q => .loadP (lt1 rfl) (q.t 0 rfl) one22 rfl rfl rfl)<| .p rfl (fun _ q _ => .move (lt1 rfl) (q.t 0 rfl))<| .p rfl (fun _ q _ => .indexRd (enc := eW) (lt1 rfl) (q.t 0 rfl) (q.t 1 rfl) Try.underlying22 sz3 (encI_len .i64) rfl hy_9)<| .p rfl (fun _ q _ => .loadR (v := iW y_9) (lt1 rfl) (q.t 0 rfl) one3 rfl)<| .p rfl (fun _ q _ => .lss (lt1 rfl) (q.t 0 rfl) (q.t 1 rfl))<| .nil _) rfl rfl ?_
    refine AWP.vs ⟨[(2,.ptr 1 0),(5,rW false y_1.1 eW),(7,iW x_6),(31,bW (decide (y_8 < y_9)))],[(1,⟨24,false,(pW β1 β2 a0)⟩)]⟩ rfl rfl ?_
    refine AWP.cond (.t rfl) (fun hc => ?_) (fun hc => ?_)
    ·have h := iteT hc h
     refine AWP.sr (.cons (.assign (lt1 rfl) (.const _ _ _))<| .nil _ _ _) ?_
     refine AWP.ret ?_
     obtain rfl := Option.some.inj h
     refine retJ (Res.vc (s' := ⟨[(4,bW false)],[]⟩) (VC.sub (.of rfl) (.n _)) ?_)
     refine Res.drop (H := []) rfl ?_
     exact Res.of rfl (.cons (.tmp rfl) (.nil)) rfl rfl
    ·have h := iteF hc h
     refine AWP.skip ?_
     obtain ⟨t7_10,ht7_10,h⟩ := letS h
     refine AWP.rg (.cons (.move (lt1 rfl) (.t rfl))<| .cons (.add (lt1 rfl) (.t rfl) (.const _ _ _))<| .cons (.assign (lt1 rfl) (.t rfl))<| .nil _ _ _) ?_
     exact endJ t7_10 h (by subst ht7_10; exact VC.sub (.of rfl) (.of rfl))
   ·have h := iteF hc h
    refine AWP.exit ?_
    exact endJ () h (VC.sub (.n _) (.n _))
theorem c44 {β1 : Bool} (n : Nat) (a0 : (List R56)) {r : (List R56)} (h : m44 n a0 = some r) : Spec Try.prog 44 [] [rW β1 a0 e56] [] (rW false r e56) [] := by
 refine Spec.of (fn := Try.f44) Try.func44 Try.ntmps44 rfl rfl (le1 rfl) (fun w0 Zs Zb T0 ι0 => ?_)
 unfold m44 at h
 refine AWP.sv (.cons (.assign (lt1 rfl) (.const _ _ _))<| .nil _ _ _) ⟨[(0,rW β1 a0 e56)],[]⟩ rfl rfl ?_
 refine AWP.sv (.cons (.assign (lt1 rfl) (.const _ _ _))<| .cons (.assign (lt1 rfl) (.const _ _ _))<| .nil _ _ _) ⟨[(0,rW β1 a0 e56),(3,.sc (.slice none 0 0)),(4,.sc (.slice none 0 0))],[]⟩ rfl rfl ?_
 refine AWP.seq ?_
 refine AWP.sv (.cons (.assign (lt1 rfl) (.const _ _ _))<| .nil _ _ _) ⟨[(0,rW β1 a0 e56),(3,.sc (.slice none 0 0)),(4,.sc (.slice none 0 0)),(5,iW (0 : Int))],[]⟩ rfl rfl ?_
 refine AWP.joinB' (S := fun p_108 : (List R56) => ⟨[(3,.own 1 2 0 p_108.length),(4,.sc (.slice none 0 0))],[(1,⟨78,true,p_108.flatMap e56⟩)]⟩) h (fun p_108 h => ?_) (fun k_109 h => ?_)
 ·refine AWP.seq ?_
  refine AWP.sv (.cons (.assign (lt1 rfl) (.const _ _ _))<| .nil _ _ _) ⟨[(3,.own 1 2 0 p_108.length),(4,.sc (.slice none 0 0)),(8,iW (0 : Int))],[(1,⟨78,true,p_108.flatMap e56⟩)]⟩ rfl rfl ?_
  refine AWP.joinB' (S := fun p_199 : (List R56) => ⟨[(4,rW false p_199 e56)],[]⟩) h (fun p_199 h => ?_) (fun k_200 h => ?_)
  ·refine AWP.sr (.cons (.move (lt1 rfl) (.t rfl))<| .cons (.assign (lt1 rfl) (.t rfl))<| .nil _ _ _) ?_
   refine AWP.ret ?_
   obtain rfl := Option.some.inj h
   refine retJ (Res.vc (s' := ⟨[(2,rW false p_199 e56)],[]⟩) (VC.sub (.of rfl) (.n _)) ?_)
   refine Res.drop (H := []) rfl ?_
   exact Res.of rfl (.cons (.tmp rfl) (.nil)) rfl rfl
  ·refine AWP.vc (VC.nilRd (d := 4) false rfl) ?_
   refine AWP.vs ⟨[(3,.own 1 2 0 p_108.length),(4,rW false ([] : List R56) e56),(8,iW (0 : Int))],[(1,⟨78,true,p_108.flatMap e56⟩)]⟩ rfl rfl ?_
   refine AWP.loopM (S := fun x_169 : (List R56) × Int => ⟨[(3,.own 1 2 0 p_108.length),(4,rW false x_169.1 e56),(8,iW x_169.2)],[(1,⟨78,true,p_108.flatMap e56⟩)]⟩) (x := (([] : List R56),(0 : Int))) (fun nx_170 x_169 h => ?_) h
   unfold m44_L7 at h
   refine AWP.seq ?_
   refine AWP.sv (.cons (.move (lt1 rfl) (.t rfl))<| .cons (.move (lt1 rfl) (.t rfl))<| .cons (.lenOwn (lt1 rfl) (.t rfl) Try.underlying49)<| .cons (.lss (lt1 rfl) (.t rfl) (.t rfl))<| .nil _ _ _) ⟨[(3,.own 1 2 0 p_108.length),(4,rW false x_169.1 e56),(8,iW x_169.2),(67,bW (decide (x_169.2 < (p_108.length : Int))))],[(1,⟨78,true,p_108.flatMap e56⟩)]⟩ rfl rfl ?_
   refine AWP.cond (.t rfl) (fun hc => ?_) (fun hc => ?_)
   ·have h := iteT hc h
    refine AWP.skip ?_
    refine AWP.seq ?_
    refine AWP.joinB' (S := fun p_196 : (List R56) => ⟨[(3,.own 1 2 0 p_108.length),(4,rW false p_196 e56),(8,iW x_169.2)],[(1,⟨78,true,p_108.flatMap e56⟩)]⟩) h (fun p_196 h => ?_) (fun k_197 h => ?_)
    ·obtain ⟨t8_198,ht8_198,h⟩ := letS h
     refine AWP.rg (.cons (.move (lt1 rfl) (.t rfl))<| .cons (.add (lt1 rfl) (.t rfl) (.const _ _ _))<| .cons (.assign (lt1 rfl) (.t rfl))<| .nil _ _ _) ?_
     exact endJ (p_196,t8_198) h (by subst ht8_198; exact VC.sub (.of rfl) (.of rfl))
    ·refine AWP.seq ?_
     obtain ⟨y_171,hy_171,h⟩ := bindS h
     refine AWP.sv (.cons (.move (lt1 rfl) (.t rfl))<| .cons (.move (lt1 rfl) (.t rfl))<| .cons (.idxOwn (lt1 rfl) (.t rfl) (.t rfl) Try.underlying49 sz78 rfl hy_171)<| .cons (.fieldP (lt1 rfl) (.t rfl) fld78_1)<| .cons (.loadP (lt1 rfl) (.t rfl) one3 rfl (cell_at encR56_len hy_171 (lt1 rfl)) rfl)<| .cons (.lss (lt1 rfl) (.t rfl) (.const _ _ _))<| .nil _ _ _) ⟨[(3,.own 1 2 0 p_108.length),(4,rW false x_169.1 e56),(8,iW x_169.2),(75,bW (decide (y_171.Cq < (1 : Int))))],[(1,⟨78,true,p_108.flatMap e56⟩)]⟩ rfl rfl ?_
     refine AWP.cond (.t rfl) (fun hc => ?_) (fun hc => ?_)
     ·have h := iteT hc h
      refine AWP.exit ?_
      exact endJ x_169.1 h (VC.sub (.of rfl) (.of rfl))
     ·have h := iteF hc h
      refine AWP.skip ?_
      refine AWP.sv (.cons (.move (lt1 rfl) (.t rfl))<| .cons (.lenRd (lt1 rfl) (.t rfl) Try.underlying49)<| .cons (.assign (lt1 rfl) (.t rfl))<| .nil _ _ _) ⟨[(3,.own 1 2 0 p_108.length),(4,rW false x_169.1 e56),(8,iW x_169.2),(9,iW (x_169.1.length : Int))],[(1,⟨78,true,p_108.flatMap e56⟩)]⟩ rfl rfl ?_
      refine AWP.seq ?_
      refine AWP.joinB' (S := fun p_188 : Int => ⟨[(3,.own 1 2 0 p_108.length),(4,rW false x_169.1 e56),(8,iW x_169.2),(9,iW p_188)],[(1,⟨78,true,p_108.flatMap e56⟩)]⟩) h (fun p_188 h => ?_) (fun k_189 h => ?_)
      ·obtain ⟨s_190,hs_190,h⟩ := bindS h
       obtain ⟨y_191,hy_191,h⟩ := bindS h
       obtain ⟨s_192,hs_192,h⟩ := bindS h
       obtain ⟨l4_193,hl4_193,h⟩ := bindS h
       obtain ⟨ha_194,h⟩ := asrtS h
       obtain ⟨l5_195,hl5_195,h⟩ := bindS h
       refine AWP.dw mixed [(3,.own 1 2 0 p_108.length),(4,rW false x_169.1 e56),(8,iW x_169.2),(9,iW p_188)] [(1,[14]),(12,[12])] [⟨[1],0,3,some (96,rW false x_169.1 e56),[]⟩,⟨[3],0,3,some (97,iW p_188),[]⟩,⟨[3],0,3,some (98,iW p_188),[]⟩,⟨[4,5,6],0,3,some (99,.rdx false s_190.length (s_190.flatMap e56)),[]⟩,dO [0] 100 (.own 1 2 0 p_108.length),⟨[2],0,3,some (101,iW x_169.2),[]⟩,dO [8,9] 102 (.ptr 1 (0 + (x_169.2).toNat * 2)),dO [10] 103 (.agg [rW false y_191.Pq eW,iW y_191.Cq]),⟨[11],0,0,some (104,.own 4 2 0 ([(R56.mk y_191.Pq y_191.Cq)] : List R56).length),[4]⟩,⟨[1],0,3,some (105,rW false x_169.1 e56),[]⟩,⟨[3],0,3,some (106,iW p_188),[]⟩,⟨[13,14],0,3,some (107,rW false s_192 e56),[]⟩,⟨[12,15],1,1,some (108,.own 4 2 0 l4_193.length),[4]⟩,⟨[7,16],2,2,some (109,.own 5 2 0 l5_195.length),[5]⟩,⟨[17],3,3,some (4,.own 5 2 0 l5_195.length),[]⟩] [8,12,13] [[(1,⟨78,true,p_108.flatMap e56⟩)],[(4,⟨78,true,([(R56.mk y_191.Pq y_191.Cq)] : List R56).flatMap e56⟩),(1,⟨78,true,p_108.flatMap e56⟩)],[(4,⟨78,true,l4_193.flatMap e56⟩),(1,⟨78,true,p_108.flatMap e56⟩)],[(5,⟨78,true,l5_195.flatMap e56⟩),(4,⟨78,true,l4_193.flatMap e56⟩),(1,⟨78,true,p_108.flatMap e56⟩)]] [[],[],[],[0,3],[],[],[4,6],[4,7],[4,8],[],[],[9,11],[4,12],[0,13],[0,14]] [0,18,2] rfl rfl (by kernel_rfl) rfl (.p rfl (fun _ q _ => .move (lt1 rfl) (q.t 0 rfl))<| .p rfl (fun _ q _ => .move (lt1 rfl) (q.t 0 rfl))<| .p rfl (fun _ q _ => .move (lt1 rfl) (q.t 0 rfl))<| .p rfl (fun _ q _ => .slX (enc := e56) (lt1 rfl) (q.t 0 rfl) Try.underlying49 sz78 encR56_len rfl (.none _ _ _) (q.t 1 rfl) (q.t 2 rfl) hs_190)<| .read rfl (.c (.put (fun E hE => .move (lt1 rfl) (hE.t 0 rfl))) (.n))<| .p rfl (fun _ q _ => .move (lt1 rfl) (q.t 0 rfl))<| .read rfl (.c (.put (fun E hE => .idxOwn (lt1 rfl) (hE.t 0 rfl) (hE.t 1 rfl) Try.underlying49 sz78 rfl hy_191)) (.n))<| .read rfl (.c (.put (fun E hE => .loadPA (lt1 rfl) (hE.t 0 rfl) agg78 rfl (cells_at encR56_len hy_191) rfl rfl)) (.n))<| .turn rfl rfl rfl rfl rfl (.new (fun E hE => .buildSlice (t := 4) (out := ([(R56.mk y_191.Pq y_191.Cq)] : List R56).flatMap e56) (lt1 rfl) (nm rfl) (.cons (hE.t 0 rfl) (by first | exact ⟨rfl,rfl⟩ | rfl) (.nil)) Try.underlying49 zero78 el78 (by decide) (by decide) rfl (still_all encR56_still _)) rfl)<| .p rfl (fun _ q _ => .move (lt1 rfl) (q.t 0 rfl))<| .p rfl (fun _ q _ => .move (lt1 rfl) (q.t 0 rfl))<| .p rfl (fun _ q _ => .slRd (enc := e56) (lt1 rfl) (q.t 0 rfl) Try.underlying49 sz78 encR56_len rfl (.some (q.t 1 rfl)) (.none _ _ _) hs_192)<| .turn rfl rfl rfl rfl rfl (.new (fun E hE => .app (enc := e56) (lt1 rfl) (nm rfl) (hE.t 0 rfl) (Src.rd (hE.t 1 rfl) (flatMap_length encR56_len _) (one_all encR56_one _) (.inl rfl)) Try.underlying49 ⟨_,Try.underlying49,by intro k hk; cases hk⟩ el78 rfl encR56_len rfl rfl (by decide) hl4_193) rfl)<| .turn rfl rfl rfl rfl rfl (.new (fun E hE => .appX (t := 5) (enc := e56) (lt1 rfl) (nm rfl) (hE.t 0 rfl) (.inl rfl) (Src.own (hE.t 1 rfl) rfl (lendAll encR56_len _) (flatMap_length encR56_len _) (one_all encR56_one _) (.inl rfl)) Try.underlying49 ⟨_,Try.underlying49,by intro k hk; cases hk⟩ el78 encR56_len rfl rfl (by decide) ha_194 hl5_195) rfl)<| .read rfl (.c (.put (fun E hE => .assign (lt1 rfl) (hE.t 0 rfl))) (.n))<| .nil _) rfl rfl ?_
       exact endJ l5_195 h (VC.trans (VC.frz (d := 4) (t := 5) rfl rfl encR56_len) (VC.sub (.of rfl) (.of rfl)))
      ·refine AWP.vs ⟨[(3,.own 1 2 0 p_108.length),(4,rW false x_169.1 e56),(8,iW x_169.2),(9,iW (x_169.1.length : Int))],[(1,⟨78,true,p_108.flatMap e56⟩)]⟩ rfl rfl ?_
       refine AWP.loopM (S := fun x_182 : Int => ⟨[(3,.own 1 2 0 p_108.length),(4,rW false x_169.1 e56),(8,iW x_169.2),(9,iW x_182)],[(1,⟨78,true,p_108.flatMap e56⟩)]⟩) (x := (x_169.1.length : Int)) (fun nx_183 x_182 h => ?_) h
       unfold m44_L8 at h
       refine AWP.seq ?_
       refine AWP.seq ?_
       obtain ⟨y_184,hy_184,h⟩ := bindS h
       obtain ⟨y_185,hy_185,h⟩ := bindS h
       obtain ⟨y_186,hy_186,h⟩ := bindS h
       refine AWP.dw mixed [(3,.own 1 2 0 p_108.length),(4,rW false x_169.1 e56),(8,iW x_169.2),(9,iW x_182)] [] [dO [3] 78 (iW x_182),dO [4] 79 (bW (decide ((0 : Int) < x_182))),dO [5] 80 (bW (decide ((0 : Int) < x_182))),dO [6,0] 81 (.gd (decide ((0 : Int) < x_182)) (.own 1 2 0 p_108.length)),dO [6,2] 82 (.gd (decide ((0 : Int) < x_182)) (iW x_169.2)),dO [6,7,8] 83 (.gd (decide ((0 : Int) < x_182)) (.ptr 1 (0 + (x_169.2).toNat * 2))),dO [6,9] 84 (.gd (decide ((0 : Int) < x_182)) (.ptr 1 ((0 + (x_169.2).toNat * 2) + 0))),dO [6,10] 85 (.gd (decide ((0 : Int) < x_182)) (rW false y_184.Pq eW)),dO [6,1] 86 (.gd (decide ((0 : Int) < x_182)) (rW false x_169.1 e56)),dO [6,3] 87 (.gd (decide ((0 : Int) < x_182)) (iW x_182)),dO [6,13] 88 (.gd (decide ((0 : Int) < x_182)) (iW (IntKind.wrap .i64 (x_182 - (1 : Int))))),dO [6,12,14] 89 (.gd (decide ((0 : Int) < x_182)) (.rptr false [rW false y_185.Pq eW,iW y_185.Cq])),dO [6,15] 90 (.gd (decide ((0 : Int) < x_182)) (.rptr false [rW false y_185.Pq eW,iW y_185.Cq])),dO [6,16] 91 (.gd (decide ((0 : Int) < x_182)) (rW false y_185.Pq eW)),dO [6,11,17] 92 (.gd (decide ((0 : Int) < x_182)) (bW y_186)),dO [6,18] 93 (bW ((decide ((0 : Int) < x_182)) && y_186))] [] [[(1,⟨78,true,p_108.flatMap e56⟩)]] [[],[0,1],[0,2],[0,3],[0,3],[0,5],[0,6],[0,7],[0,3],[0,3],[0,3,9,10],[0,3,8,11],[0,3,8,12],[0,3,8,13],[0,14],[0,15]] [0,1,2,3,19] rfl rfl (by kernel_rfl) rfl (.p rfl (fun _ q _ => .move (lt1 rfl) (q.t 0 rfl))<| .p rfl (fun _ q _ => .gtr (lt1 rfl) (q.t 0 rfl) (.const _ _ _))<| .p rfl (fun _ q _ => .move (lt1 rfl) (q.t 0 rfl))<| .rt rfl rfl rfl rfl rfl rfl (fun hg _ q => .move (lt1 rfl) (q.t 1 rfl))<| .gt rfl rfl rfl rfl rfl (fun hg _ q _ => .move (lt1 rfl) (q.t 1 rfl))<| .rt rfl rfl rfl rfl rfl rfl (fun hg _ q => .idxOwn (lt1 rfl) (.gd hg (q.t 1 rfl)) (.gd hg (q.t 2 rfl)) Try.underlying49 sz78 rfl (gdB hy_184 hg))<| .rt rfl rfl rfl rfl rfl rfl (fun hg _ q => .fieldP (lt1 rfl) (.gd hg (q.t 1 rfl)) fld78_0)<| .rt rfl rfl rfl rfl rfl rfl (fun hg _ q => .loadP (lt1 rfl) (.gd hg (q.t 1 rfl)) one22 rfl (cell_at encR56_len (gdB hy_184 hg) (lt1 rfl)) rfl)<| .gt rfl rfl rfl rfl rfl (fun hg _ q _ => .move (lt1 rfl) (q.t 1 rfl))<| .gt rfl rfl rfl rfl rfl (fun hg _ q _ => .move (lt1 rfl) (q.t 1 rfl))<| .gt rfl rfl rfl rfl rfl (fun hg _ q _ => .sub (lt1 rfl) (.gd hg (q.t 1 rfl)) (.const _ _ _))<| .gt rfl rfl rfl rfl rfl (fun hg _ q _ => .indexRd (enc := e56) (lt1 rfl) (.gd hg (q.t 1 rfl)) (.gd hg (q.t 2 rfl)) Try.underlying49 sz78 encR56_len rfl (gdB hy_185 hg))<| .gt rfl rfl rfl rfl rfl (fun hg _ q _ => .fieldR (sub := [rW false y_185.Pq eW,iW y_185.Cq]) (lt1 rfl) (.gd hg (q.t 1 rfl)) fld78_0 rfl)<| .gt rfl rfl rfl rfl rfl (fun hg _ q _ => .loadR (v := rW false y_185.Pq eW) (lt1 rfl) (.gd hg (q.t 1 rfl)) one22 rfl)<| .gt rfl rfl rfl rfl rfl (fun hg _ q _ => .call0 (bw := false) (lt1 rfl) (c15 (β1 := false) (β2 := false) n y_184.Pq y_185.Pq (gdB hy_186 hg)) (.cons (.gd hg (q.t 1 rfl)) (.ren rfl) (.cons (.gd hg (q.t 2 rfl)) (.ren rfl) (.nil))) rfl)<| .p rfl (fun _ q _ => .pickAnd (lt1 rfl) (q.t 0 rfl) (q.t 1 rfl) (.const _ _ _))<| .nil _) rfl rfl ?_
       refine AWP.vs ⟨[(3,.own 1 2 0 p_108.length),(4,rW false x_169.1 e56),(8,iW x_169.2),(9,iW x_182),(93,bW ((decide ((0 : Int) < x_182)) && y_186))],[(1,⟨78,true,p_108.flatMap e56⟩)]⟩ rfl rfl ?_
       refine AWP.cond (.t rfl) (fun hc => ?_) (fun hc => ?_)
       ·have h := iteT hc h
        refine AWP.skip ?_
        refine AWP.block ?_
        obtain ⟨t9_187,ht9_187,h⟩ := letS h
        refine AWP.rg (.cons (.move (lt1 rfl) (.t rfl))<| .cons (.sub (lt1 rfl) (.t rfl) (.const _ _ _))<| .cons (.assign (lt1 rfl) (.t rfl))<| .nil _ _ _) ?_
        exact endJ t9_187 h (by subst ht9_187; exact VC.sub (.of rfl) (.of rfl))
       ·have h := iteF hc h
        refine AWP.exit ?_
        exact endJ x_182 h (VC.sub (.of rfl) (.of rfl))
   ·have h := iteF hc h
    refine AWP.exit ?_
    exact endJ x_169.1 h (VC.sub (.of rfl) (.n _))
 ·refine AWP.vc (VC.nilOwn (d := 3) (t := 1) (sz := 2) (E := 78) rfl (nm rfl)) ?_
  refine AWP.vs ⟨[(0,rW β1 a0 e56),(3,.own 1 2 0 ([] : List R56).length),(4,.sc (.slice none 0 0)),(5,iW (0 : Int))],[(1,⟨78,true,([] : List R56).flatMap e56⟩)]⟩ rfl rfl ?_
  refine AWP.loopM (S := fun x_72 : Int × (List R56) => ⟨[(0,rW β1 a0 e56),(3,.own 1 2 0 x_72.2.length),(4,.sc (.slice none 0 0)),(5,iW x_72.1)],[(1,⟨78,true,x_72.2.flatMap e56⟩)]⟩) (x := ((0 : Int),([] : List R56))) (fun nx_73 x_72 h => ?_) h
  unfold m44_L3 at h
  refine AWP.seq ?_
  refine AWP.sv (.cons (.move (lt1 rfl) (.t rfl))<| .cons (.move (lt1 rfl) (.t rfl))<| .cons (.lenRd (lt1 rfl) (.t rfl) Try.underlying49)<| .cons (.lss (lt1 rfl) (.t rfl) (.t rfl))<| .nil _ _ _) ⟨[(0,rW β1 a0 e56),(3,.own 1 2 0 x_72.2.length),(4,.sc (.slice none 0 0)),(5,iW x_72.1),(13,bW (decide (x_72.1 < (a0.length : Int))))],[(1,⟨78,true,x_72.2.flatMap e56⟩)]⟩ rfl rfl ?_
  refine AWP.cond (.t rfl) (fun hc => ?_) (fun hc => ?_)
  ·have h := iteT hc h
   refine AWP.skip ?_
   refine AWP.seq ?_
   refine AWP.block ?_
   refine AWP.sv (.cons (.move (lt1 rfl) (.t rfl))<| .cons (.lenOwn (lt1 rfl) (.t rfl) Try.underlying49)<| .cons (.assign (lt1 rfl) (.t rfl))<| .nil _ _ _) ⟨[(0,rW β1 a0 e56),(3,.own 1 2 0 x_72.2.length),(4,.sc (.slice none 0 0)),(5,iW x_72.1),(6,iW (x_72.2.length : Int))],[(1,⟨78,true,x_72.2.flatMap e56⟩)]⟩ rfl rfl ?_
   refine AWP.seq ?_
   refine AWP.sv (.cons (.assign (lt1 rfl) (.const _ _ _))<| .nil _ _ _) ⟨[(0,rW β1 a0 e56),(3,.own 1 2 0 x_72.2.length),(4,.sc (.slice none 0 0)),(5,iW x_72.1),(6,iW (x_72.2.length : Int)),(7,iW (0 : Int))],[(1,⟨78,true,x_72.2.flatMap e56⟩)]⟩ rfl rfl ?_
   refine AWP.joinB' (S := fun p_96 : Int => ⟨[(0,rW β1 a0 e56),(3,.own 1 2 0 x_72.2.length),(4,.sc (.slice none 0 0)),(5,iW x_72.1),(6,iW p_96)],[(1,⟨78,true,x_72.2.flatMap e56⟩)]⟩) h (fun p_96 h => ?_) (fun k_97 h => ?_)
   ·refine AWP.seq ?_
    refine AWP.sv (.cons (.move (lt1 rfl) (.t rfl))<| .cons (.move (lt1 rfl) (.t rfl))<| .cons (.lenOwn (lt1 rfl) (.t rfl) Try.underlying49)<| .cons (.eql (lt1 rfl) (.t rfl) (.t rfl))<| .nil _ _ _) ⟨[(0,rW β1 a0 e56),(3,.own 1 2 0 x_72.2.length),(4,.sc (.slice none 0 0)),(5,iW x_72.1),(6,iW p_96),(39,bW (decide (p_96 = (x_72.2.length : Int))))],[(1,⟨78,true,x_72.2.flatMap e56⟩)]⟩ rfl rfl ?_
    refine AWP.join' (S := fun p_101 : (List R56) => ⟨[(0,rW β1 a0 e56),(3,.own 1 2 0 p_101.length),(4,.sc (.slice none 0 0)),(5,iW x_72.1),(6,iW p_96)],[(1,⟨78,true,p_101.flatMap e56⟩)]⟩) h (fun p_101 h => ?_) (fun k_102 h => ?_)
    ·obtain ⟨y_103,hy_103,h⟩ := bindS h
     obtain ⟨y_104,hy_104,h⟩ := bindS h
     obtain ⟨y_105,hy_105,h⟩ := bindS h
     obtain ⟨l1_106,hl1_106,h⟩ := bindS h
     refine AWP.dw mixed [(0,rW β1 a0 e56),(3,.own 1 2 0 p_101.length),(4,.sc (.slice none 0 0)),(5,iW x_72.1),(6,iW p_96)] [] [dO [1] 51 (.own 1 2 0 p_101.length),⟨[4],0,1,some (52,iW p_96),[]⟩,dO [5,6] 53 (.ptr 1 (0 + (p_96).toNat * 2)),dO [7] 54 (.ptr 1 ((0 + (p_96).toNat * 2) + 1)),dO [8] 55 (iW y_103.Cq),⟨[0],0,1,some (56,rW β1 a0 e56),[]⟩,⟨[3],0,1,some (57,iW x_72.1),[]⟩,⟨[10,11],0,1,some (58,.rptr β1 [rW false y_104.Pq eW,iW y_104.Cq]),[]⟩,⟨[12],0,1,some (59,.rptr β1 [iW y_104.Cq]),[]⟩,⟨[13],0,1,some (60,iW y_104.Cq),[]⟩,⟨[9,14],0,1,some (61,iW (IntKind.wrap .i64 (y_103.Cq + y_104.Cq))),[]⟩,dO [5,6] 62 (.ptr 1 (0 + (p_96).toNat * 2)),dO [16] 63 (.ptr 1 ((0 + (p_96).toNat * 2) + 1)),⟨[17,15],0,0,none,[]⟩] [13] [[(1,⟨78,true,p_101.flatMap e56⟩)],[(1,⟨78,true,l1_106.flatMap e56⟩)]] [[],[],[0,2],[0,3],[0,4],[],[],[5,7],[5,8],[5,9],[0,10],[0,11],[0,12],[0,13]] [0,1,2,3] rfl rfl (by kernel_rfl) rfl (.read rfl (.c (.put (fun E hE => .move (lt1 rfl) (hE.t 0 rfl))) (.n))<| .p rfl (fun _ q _ => .move (lt1 rfl) (q.t 0 rfl))<| .read rfl (.c (.put (fun E hE => .idxOwn (lt1 rfl) (hE.t 0 rfl) (hE.t 1 rfl) Try.underlying49 sz78 rfl hy_103)) (.n))<| .read rfl (.c (.put (fun E hE => .fieldP (lt1 rfl) (hE.t 0 rfl) fld78_1)) (.n))<| .read rfl (.c (.put (fun E hE => .loadP (lt1 rfl) (hE.t 0 rfl) one3 rfl (cell_at encR56_len hy_103 (lt1 rfl)) rfl)) (.n))<| .p rfl (fun _ q _ => .move (lt1 rfl) (q.t 0 rfl))<| .p rfl (fun _ q _ => .move (lt1 rfl) (q.t 0 rfl))<| .p rfl (fun _ q _ => .indexRd (enc := e56) (lt1 rfl) (q.t 0 rfl) (q.t 1 rfl) Try.underlying49 sz78 encR56_len rfl hy_104)<| .p rfl (fun _ q _ => .fieldR (lt1 rfl) (q.t 0 rfl) fld78_1 rfl)<| .p rfl (fun _ q _ => .loadR (v := iW y_104.Cq) (lt1 rfl) (q.t 0 rfl) one3 rfl)<| .p rfl (fun _ q _ => .add (lt1 rfl) (q.t 0 rfl) (q.t 1 rfl))<| .read rfl (.c (.put (fun E hE => .idxOwn (lt1 rfl) (hE.t 0 rfl) (hE.t 1 rfl) Try.underlying49 sz78 rfl hy_105)) (.n))<| .read rfl (.c (.put (fun E hE => .fieldP (lt1 rfl) (hE.t 0 rfl) fld78_1)) (.n))<| .turn rfl rfl rfl rfl rfl (.store (fun E hE => .storeP (hE.t 0 rfl) (hE.t 1 rfl) sz3 rfl (lt_at encR56_len hy_105 (lt1 rfl)) rfl (fun _ => rfl) (set_at encR56_len hy_105 hl1_106 (lt1 rfl) rfl)) rfl)<| .nil _) rfl rfl ?_
     refine AWP.vc (s' := ⟨[(0,rW β1 a0 e56),(3,.own 1 2 0 l1_106.length),(4,.sc (.slice none 0 0)),(5,iW x_72.1)],[(1,⟨78,true,l1_106.flatMap e56⟩)]⟩) (VC.sub (.c rfl<| .c (lenC (Eq.symm (setLen hl1_106)) rfl)<| .c rfl<| .c rfl<| .n _) (.of rfl)) ?_
     obtain ⟨t5_107,ht5_107,h⟩ := letS h
     refine AWP.rg (.cons (.move (lt1 rfl) (.t rfl))<| .cons (.add (lt1 rfl) (.t rfl) (.const _ _ _))<| .cons (.assign (lt1 rfl) (.t rfl))<| .nil _ _ _) ?_
     exact endJ (t5_107,l1_106) h (by subst ht5_107; exact VC.sub (.of rfl) (.of rfl))
    ·refine AWP.cond (.t rfl) (fun hc => ?_) (fun hc => ?_)
     ·have h := iteT hc h
      obtain ⟨y_98,hy_98,h⟩ := bindS h
      obtain ⟨l2_99,hl2_99,h⟩ := bindS h
      obtain ⟨l1_100,hl1_100,h⟩ := bindS h
      refine AWP.rg (.cons (.move (lt1 rfl) (.t rfl))<| .cons (.buildSlice (t := 2) (out := ([] : List Int).flatMap eW) (lt1 rfl) (nm rfl) (.nil) Try.underlying22 zero3 el3 (by decide) (by decide) rfl (still_all (encI_still .i64) _))<| .cons (.move (lt1 rfl) (.t rfl))<| .cons (.move (lt1 rfl) (.t rfl))<| .cons (.indexRd (enc := e56) (lt1 rfl) (.t rfl) (.t rfl) Try.underlying49 sz78 encR56_len rfl hy_98)<| .cons (.fieldR (lt1 rfl) (.t rfl) fld78_0 rfl)<| .cons (.loadR (v := rW β1 y_98.Pq eW) (lt1 rfl) (.t rfl) one22 rfl)<| .cons (.app (enc := eW) (lt1 rfl) (nm rfl) (.t rfl) (Src.rd (.t rfl) (flatMap_length (encI_len .i64) _) (one_all (encI_one .i64) _) (.inr (scal_all (encI_scal .i64) _))) Try.underlying22 ⟨_,Try.underlying22,by intro k hk; cases hk⟩ el3 rfl (encI_len .i64) rfl rfl (by decide) hl2_99)<| .vc (VC.frz (d := 47) (t := 2) rfl rfl (encI_len .i64))<| .cons (.buildO (offs := [(0,1),(1,1)]) (lt1 rfl) (.cons (.t rfl) (by first | exact ⟨rfl,rfl⟩ | rfl) (.nil)) zero78 offs78 rfl)<| .cons (.buildSlice (t := 3) (out := ([(R56.mk l2_99 (0 : Int))] : List R56).flatMap e56) (lt1 rfl) (nm rfl) (.cons (.t rfl) (by first | exact ⟨rfl,rfl⟩ | rfl) (.nil)) Try.underlying49 zero78 el78 (by decide) (by decide) rfl (still_all encR56_still _))<| .cons (.app (enc := e56) (lt1 rfl) (nm rfl) (.t rfl) (Src.own (.t rfl) rfl (lendAll encR56_len _) (flatMap_length encR56_len _) (one_all encR56_one _) (.inl rfl)) Try.underlying49 ⟨_,Try.underlying49,by intro k hk; cases hk⟩ el78 rfl encR56_len rfl rfl (by decide) hl1_100)<| .cons (.assign (lt1 rfl) (.t rfl))<| .nil _ _ _) ?_
      exact endJ l1_100 h (VC.sub (.of rfl) (.of rfl))
     ·have h := iteF hc h
      refine AWP.skip ?_
      exact endJ x_72.2 h (VC.sub (.of rfl) (.of rfl))
   ·refine AWP.vs ⟨[(0,rW β1 a0 e56),(3,.own 1 2 0 x_72.2.length),(4,.sc (.slice none 0 0)),(5,iW x_72.1),(6,iW (x_72.2.length : Int)),(7,iW (0 : Int))],[(1,⟨78,true,x_72.2.flatMap e56⟩)]⟩ rfl rfl ?_
    refine AWP.loopM (S := fun x_88 : Int × Int => ⟨[(0,rW β1 a0 e56),(3,.own 1 2 0 x_72.2.length),(4,.sc (.slice none 0 0)),(5,iW x_72.1),(6,iW x_88.1),(7,iW x_88.2)],[(1,⟨78,true,x_72.2.flatMap e56⟩)]⟩) (x := ((x_72.2.length : Int),(0 : Int))) (fun nx_89 x_88 h => ?_) h
    unfold m44_L4 at h
    refine AWP.seq ?_
    refine AWP.sv (.cons (.move (lt1 rfl) (.t rfl))<| .cons (.move (lt1 rfl) (.t rfl))<| .cons (.lenOwn (lt1 rfl) (.t rfl) Try.underlying49)<| .cons (.lss (lt1 rfl) (.t rfl) (.t rfl))<| .nil _ _ _) ⟨[(0,rW β1 a0 e56),(3,.own 1 2 0 x_72.2.length),(4,.sc (.slice none 0 0)),(5,iW x_72.1),(6,iW x_88.1),(7,iW x_88.2),(21,bW (decide (x_88.2 < (x_72.2.length : Int))))],[(1,⟨78,true,x_72.2.flatMap e56⟩)]⟩ rfl rfl ?_
    refine AWP.cond (.t rfl) (fun hc => ?_) (fun hc => ?_)
    ·have h := iteT hc h
     refine AWP.skip ?_
     refine AWP.seq ?_
     refine AWP.block ?_
     refine AWP.seq ?_
     obtain ⟨y_90,hy_90,h⟩ := bindS h
     obtain ⟨y_91,hy_91,h⟩ := bindS h
     obtain ⟨y_92,hy_92,h⟩ := bindS h
     refine AWP.dw mixed [(0,rW β1 a0 e56),(3,.own 1 2 0 x_72.2.length),(4,.sc (.slice none 0 0)),(5,iW x_72.1),(6,iW x_88.1),(7,iW x_88.2),(21,bW (decide (x_88.2 < (x_72.2.length : Int))))] [] [dO [1] 24 (.own 1 2 0 x_72.2.length),dO [5] 25 (iW x_88.2),dO [7,8] 26 (.ptr 1 (0 + (x_88.2).toNat * 2)),dO [9] 27 (.ptr 1 ((0 + (x_88.2).toNat * 2) + 0)),dO [10] 28 (rW false y_90.Pq eW),dO [0] 29 (rW β1 a0 e56),dO [3] 30 (iW x_72.1),dO [12,13] 31 (.rptr β1 [rW false y_91.Pq eW,iW y_91.Cq]),dO [14] 32 (.rptr β1 [rW false y_91.Pq eW,iW y_91.Cq]),dO [15] 33 (rW β1 y_91.Pq eW),dO [11,16] 34 (bW y_92)] [] [[(1,⟨78,true,x_72.2.flatMap e56⟩)]] [[],[],[0,2],[0,3],[0,4],[],[],[5,7],[5,8],[5,9],[0,10]] [0,1,2,3,4,5,17] rfl rfl (by kernel_rfl) rfl (.r rfl rfl (fun _ q => .move (lt1 rfl) (q.t 0 rfl))<| .p rfl (fun _ q _ => .move (lt1 rfl) (q.t 0 rfl))<| .r rfl rfl (fun _ q => .idxOwn (lt1 rfl) (q.t 0 rfl) (q.t 1 rfl) Try.underlying49 sz78 rfl hy_90)<| .r rfl rfl (fun _ q => .fieldP (lt1 rfl) (q.t 0 rfl) fld78_0)<| .r rfl rfl (fun _ q => .loadP (lt1 rfl) (q.t 0 rfl) one22 rfl (cell_at encR56_len hy_90 (lt1 rfl)) rfl)<| .p rfl (fun _ q _ => .move (lt1 rfl) (q.t 0 rfl))<| .p rfl (fun _ q _ => .move (lt1 rfl) (q.t 0 rfl))<| .p rfl (fun _ q _ => .indexRd (enc := e56) (lt1 rfl) (q.t 0 rfl) (q.t 1 rfl) Try.underlying49 sz78 encR56_len rfl hy_91)<| .p rfl (fun _ q _ => .fieldR (lt1 rfl) (q.t 0 rfl) fld78_0 rfl)<| .p rfl (fun _ q _ => .loadR (v := rW β1 y_91.Pq eW) (lt1 rfl) (q.t 0 rfl) one22 rfl)<| .p rfl (fun _ q _ => .call0 (bw := false) (lt1 rfl) (c34 (β1 := false) (β2 := β1) n y_90.Pq y_91.Pq hy_92) (.cons (q.t 0 rfl) (.ren rfl) (.cons (q.t 1 rfl) (.ren rfl) (.nil))) rfl)<| .nil _) rfl rfl ?_
     refine AWP.vs ⟨[(0,rW β1 a0 e56),(3,.own 1 2 0 x_72.2.length),(4,.sc (.slice none 0 0)),(5,iW x_72.1),(6,iW x_88.1),(7,iW x_88.2),(34,bW y_92)],[(1,⟨78,true,x_72.2.flatMap e56⟩)]⟩ rfl rfl ?_
     refine AWP.join' (S := fun p_93 : Int => ⟨[(0,rW β1 a0 e56),(3,.own 1 2 0 x_72.2.length),(4,.sc (.slice none 0 0)),(5,iW x_72.1),(6,iW p_93),(7,iW x_88.2)],[(1,⟨78,true,x_72.2.flatMap e56⟩)]⟩) h (fun p_93 h => ?_) (fun k_94 h => ?_)
     ·obtain ⟨t7_95,ht7_95,h⟩ := letS h
      refine AWP.rg (.cons (.move (lt1 rfl) (.t rfl))<| .cons (.add (lt1 rfl) (.t rfl) (.const _ _ _))<| .cons (.assign (lt1 rfl) (.t rfl))<| .nil _ _ _) ?_
      exact endJ (p_93,t7_95) h (by subst ht7_95; exact VC.sub (.of rfl) (.of rfl))
     ·refine AWP.cond (.t rfl) (fun hc => ?_) (fun hc => ?_)
      ·have h := iteT hc h
       refine AWP.rg (.cons (.move (lt1 rfl) (.t rfl))<| .cons (.assign (lt1 rfl) (.t rfl))<| .nil _ _ _) ?_
       exact endJ x_88.2 h (VC.sub (.of rfl) (.of rfl))
      ·have h := iteF hc h
       refine AWP.skip ?_
       exact endJ x_88.1 h (VC.sub (.of rfl) (.of rfl))
    ·have h := iteF hc h
     refine AWP.exit ?_
     exact endJ x_88.1 h (VC.sub (.of rfl) (.of rfl))
  ·have h := iteF hc h
   refine AWP.exit ?_
   exact endJ x_72.2 h (VC.sub (.of rfl) (.of rfl))
theorem c40 {β1 : Bool} {β2 : Bool} {β3 : Bool} (n : Nat) (a0 : R23) (a1 : (List R56)) {r : ((List R56) × Int)} (h : m40 n a0 a1 = some r) : Spec Try.prog 40 [] [.agg (pW β1 β2 a0),rW β3 a1 e56] [] (.tup [rW false r.1 e56,iW r.2]) [] := by
 refine Spec.of (fn := Try.f40) Try.func40 Try.ntmps40 rfl rfl (le1 rfl) (fun w0 Zs Zb T0 ι0 => ?_)
 unfold m40 at h
 refine AWP.sv (.cons (.box (t := 1) (n := 4) (lt1 rfl) (nm rfl) (.t rfl) (by first | exact ⟨rfl,rfl⟩ | rfl) rfl)<| .cons (.assign (lt1 rfl) (.const _ _ _))<| .cons (.assign (lt1 rfl) (.const _ _ _))<| .nil _ _ _) ⟨[(1,rW β3 a1 e56),(2,.ptr 1 0)],[(1,⟨24,false,(pW β1 β2 a0)⟩)]⟩ rfl rfl ?_
 obtain ⟨y_1,hy_1,h⟩ := bindS h
 refine AWP.sv (.cons (.loadPA (lt1 rfl) (.t rfl) agg24 rfl rfl rfl rfl)<| .cons (.move (lt1 rfl) (.t rfl))<| .cons (.call (σ := fun _ => 2) (bw := false) (lt1 rfl) (c38o (β1 := β1) (β2 := β2) (β3 := β3) n (R23.mk a0.Lq a0.Dq a0.Sq a0.Kq) a1 hy_1) (.cons (.t rfl) (.ren rfl) (.cons (.t rfl) (.ren rfl) (.nil))) (CallOk.mk' (.n) rfl))<| .cons (.move (lt1 rfl) (.t rfl))<| .cons (.extract (lt1 rfl) (.t rfl) rfl)<| .cons (.extract (lt1 rfl) (.t rfl) rfl)<| .cons (.assign (lt1 rfl) (.t rfl))<| .cons (.assign (lt1 rfl) (.t rfl))<| .nil _ _ _) ⟨[(1,rW β3 a1 e56),(2,.ptr 1 0),(6,.own 2 1 0 y_1.1.length),(7,iW y_1.2)],[(2,⟨3,true,y_1.1.flatMap eW⟩),(1,⟨24,false,(pW β1 β2 a0)⟩)]⟩ rfl rfl ?_
 refine AWP.seq ?_
 refine AWP.block ?_
 refine AWP.sv (.cons (.move (lt1 rfl) (.t rfl))<| .cons (.neq (lt1 rfl) (.t rfl) (.const _ _ _))<| .cons (.assign (lt1 rfl) (.t rfl))<| .nil _ _ _) ⟨[(1,rW β3 a1 e56),(2,.ptr 1 0),(6,.own 2 1 0 y_1.1.length),(7,iW y_1.2),(22,bW (!decide (y_1.2 = (0 : Int))))],[(2,⟨3,true,y_1.1.flatMap eW⟩),(1,⟨24,false,(pW β1 β2 a0)⟩)]⟩ rfl rfl ?_
 refine AWP.cond (.t rfl) (fun hc => ?_) (fun hc => ?_)
 ·have h := iteT hc h
  refine AWP.sr (.cons (.move (lt1 rfl) (.t rfl))<| .cons (.assign (lt1 rfl) (.const _ _ _))<| .cons (.assign (lt1 rfl) (.t rfl))<| .nil _ _ _) ?_
  refine AWP.ret ?_
  obtain rfl := Option.some.inj h
  refine retJ (Res.vc (s' := ⟨[(4,rW false ([] : List R56) e56),(5,iW y_1.2)],[]⟩) (VC.trans (VC.nilRd (d := 4) false rfl) (VC.sub (.of rfl) (.n _))) ?_)
  refine Res.drop (H := []) rfl ?_
  exact Res.of rfl (.cons (.tmp rfl) (.cons (.tmp rfl) (.nil))) rfl rfl
 ·have h := iteF hc h
  obtain ⟨y_2,hy_2,h⟩ := bindS h
  refine AWP.sv (.cons (.loadPA (lt1 rfl) (.t rfl) agg24 rfl rfl rfl rfl)<| .cons (.move (lt1 rfl) (.t rfl))<| .cons (.call0 (bw := false) (lt1 rfl) (c42 (β1 := β1) (β2 := β2) (β3 := β3) n (R23.mk a0.Lq a0.Dq a0.Sq a0.Kq) a1 hy_2) (.cons (.t rfl) (.ren rfl) (.cons (.t rfl) (.ren rfl) (.nil))) rfl)<| .cons (.not (lt1 rfl) (.t rfl))<| .cons (.assign (lt1 rfl) (.t rfl))<| .nil _ _ _) ⟨[(1,rW β3 a1 e56),(2,.ptr 1 0),(6,.own 2 1 0 y_1.1.length),(26,bW (!y_2))],[(2,⟨3,true,y_1.1.flatMap eW⟩),(1,⟨24,false,(pW β1 β2 a0)⟩)]⟩ rfl rfl ?_
  refine AWP.cond (.t rfl) (fun hc => ?_) (fun hc => ?_)
  ·have h := iteT hc h
   refine AWP.sr (.cons (.assign (lt1 rfl) (.const _ _ _))<| .cons (.assign (lt1 rfl) (.const _ _ _))<| .nil _ _ _) ?_
   refine AWP.ret ?_
   obtain rfl := Option.some.inj h
   refine retJ (Res.vc (s' := ⟨[(4,rW false ([] : List R56) e56),(5,iW (18 : Int))],[]⟩) (VC.trans (VC.nilRd (d := 4) false rfl) (VC.sub (.of rfl) (.n _))) ?_)
   refine Res.drop (H := []) rfl ?_
   exact Res.of rfl (.cons (.tmp rfl) (.cons (.tmp rfl) (.nil))) rfl rfl
  ·have h := iteF hc h
   refine AWP.skip ?_
   obtain ⟨y_3,hy_3,h⟩ := bindS h
   refine AWP.sv (.cons (.move (lt1 rfl) (.t rfl))<| .cons (.call0 (bw := false) (lt1 rfl) (c44 (β1 := β3) n a1 hy_3) (.cons (.t rfl) (.ren rfl) (.nil)) rfl)<| .cons (.assign (lt1 rfl) (.t rfl))<| .nil _ _ _) ⟨[(2,.ptr 1 0),(6,.own 2 1 0 y_1.1.length),(8,rW false y_3 e56)],[(2,⟨3,true,y_1.1.flatMap eW⟩),(1,⟨24,false,(pW β1 β2 a0)⟩)]⟩ rfl rfl ?_
   refine AWP.sv (.cons (.assign (lt1 rfl) (.const _ _ _))<| .nil _ _ _) ⟨[(2,.ptr 1 0),(6,.own 2 1 0 y_1.1.length),(8,rW false y_3 e56),(9,.sc (.slice none 0 0))],[(2,⟨3,true,y_1.1.flatMap eW⟩),(1,⟨24,false,(pW β1 β2 a0)⟩)]⟩ rfl rfl ?_
   refine AWP.seq ?_
   obtain ⟨t10_4,ht10_4,h⟩ := letS h
   refine AWP.sr (.cons (.move (lt1 rfl) (.t rfl))<| .cons (.lenRd (lt1 rfl) (.t rfl) Try.underlying49)<| .cons (.sub (lt1 rfl) (.t rfl) (.const _ _ _))<| .cons (.assign (lt1 rfl) (.t rfl))<| .nil _ _ _) ?_
   refine AWP.vc (s' := ⟨[(2,.ptr 1 0),(6,.own 2 1 0 y_1.1.length),(8,rW false y_3 e56),(9,.sc (.slice none 0 0)),(10,iW t10_4)],[(2,⟨3,true,y_1.1.flatMap eW⟩),(1,⟨24,false,(pW β1 β2 a0)⟩)]⟩) (by subst ht10_4; exact VC.sub (.of rfl) (.of rfl)) ?_
   refine AWP.joinB' (S := fun p_471 : (List R56) => ⟨[(9,.own 3 2 0 p_471.length)],[(3,⟨78,true,p_471.flatMap e56⟩)]⟩) h (fun p_471 h => ?_) (fun k_472 h => ?_)
   ·obtain ⟨y_473,hy_473,h⟩ := bindS h
    refine AWP.sr (.cons (.move (lt1 rfl) (.t rfl))<| .cons (.call0 (bw := true) (lt1 rfl) (c44 (β1 := true) n p_471 hy_473) (.cons (.t rfl) (.lendRow rfl rfl encR56_len rfl) (.nil)) rfl)<| .cons (.assign (lt1 rfl) (.t rfl))<| .cons (.assign (lt1 rfl) (.const _ _ _))<| .nil _ _ _) ?_
    refine AWP.ret ?_
    obtain rfl := Option.some.inj h
    refine retJ (Res.vc (s' := ⟨[(4,rW false y_473 e56),(5,iW (0 : Int))],[]⟩) (VC.sub (.of rfl) (.n _)) ?_)
    refine Res.drop (H := []) rfl ?_
    exact Res.of rfl (.cons (.tmp rfl) (.cons (.tmp rfl) (.nil))) rfl rfl
   ·refine AWP.vc (VC.nilOwn (d := 9) (t := 3) (sz := 2) (E := 78) rfl (nm rfl)) ?_
    refine AWP.vs ⟨[(2,.ptr 1 0),(6,.own 2 1 0 y_1.1.length),(8,rW false y_3 e56),(9,.own 3 2 0 ([] : List R56).length),(10,iW t10_4)],[(1,⟨24,false,(pW β1 β2 a0)⟩),(2,⟨3,true,y_1.1.flatMap eW⟩),(3,⟨78,true,([] : List R56).flatMap e56⟩)]⟩ rfl rfl ?_
    refine AWP.loopM (S := fun x_315 : Int × (List Int) × (List R56) => ⟨[(2,.ptr 1 0),(6,.own 2 1 0 x_315.2.1.length),(8,rW false y_3 e56),(9,.own 3 2 0 x_315.2.2.length),(10,iW x_315.1)],[(1,⟨24,false,(pW β1 β2 a0)⟩),(2,⟨3,true,x_315.2.1.flatMap eW⟩),(3,⟨78,true,x_315.2.2.flatMap e56⟩)]⟩) (x := (t10_4,y_1.1,([] : List R56))) (fun nx_316 x_315 h => ?_) h
    unfold m40_L9 at h
    refine AWP.seq ?_
    refine AWP.sv (.cons (.move (lt1 rfl) (.t rfl))<| .cons (.geq (lt1 rfl) (.t rfl) (.const _ _ _))<| .nil _ _ _) ⟨[(2,.ptr 1 0),(6,.own 2 1 0 x_315.2.1.length),(8,rW false y_3 e56),(9,.own 3 2 0 x_315.2.2.length),(10,iW x_315.1),(37,bW (decide ((0 : Int) ≤ x_315.1)))],[(1,⟨24,false,(pW β1 β2 a0)⟩),(2,⟨3,true,x_315.2.1.flatMap eW⟩),(3,⟨78,true,x_315.2.2.flatMap e56⟩)]⟩ rfl rfl ?_
    refine AWP.cond (.t rfl) (fun hc => ?_) (fun hc => ?_)
    ·have h := iteT hc h
     refine AWP.skip ?_
     refine AWP.seq ?_
     refine AWP.block ?_
     refine AWP.sv (.cons (.assign (lt1 rfl) (.const _ _ _))<| .nil _ _ _) ⟨[(2,.ptr 1 0),(6,.own 2 1 0 x_315.2.1.length),(8,rW false y_3 e56),(9,.own 3 2 0 x_315.2.2.length),(10,iW x_315.1),(11,iW (0 : Int))],[(1,⟨24,false,(pW β1 β2 a0)⟩),(2,⟨3,true,x_315.2.1.flatMap eW⟩),(3,⟨78,true,x_315.2.2.flatMap e56⟩)]⟩ rfl rfl ?_
     refine AWP.joinB' (S := fun p_468 : (List Int) × (List R56) => ⟨[(2,.ptr 1 0),(6,.own 2 1 0 p_468.1.length),(8,rW false y_3 e56),(9,.own 3 2 0 p_468.2.length),(10,iW x_315.1)],[(1,⟨24,false,(pW β1 β2 a0)⟩),(2,⟨3,true,p_468.1.flatMap eW⟩),(3,⟨78,true,p_468.2.flatMap e56⟩)]⟩) h (fun p_468 h => ?_) (fun k_469 h => ?_)
     ·obtain ⟨t10_470,ht10_470,h⟩ := letS h
      refine AWP.rg (.cons (.move (lt1 rfl) (.t rfl))<| .cons (.sub (lt1 rfl) (.t rfl) (.const _ _ _))<| .cons (.assign (lt1 rfl) (.t rfl))<| .nil _ _ _) ?_
      exact endJ (t10_470,p_468.1,p_468.2) h (by subst ht10_470; exact VC.sub (.of rfl) (.of rfl))
     ·refine AWP.vs ⟨[(2,.ptr 1 0),(6,.own 2 1 0 x_315.2.1.length),(8,rW false y_3 e56),(9,.own 3 2 0 x_315.2.2.length),(10,iW x_315.1),(11,iW (0 : Int))],[(1,⟨24,false,(pW β1 β2 a0)⟩),(2,⟨3,true,x_315.2.1.flatMap eW⟩),(3,⟨78,true,x_315.2.2.flatMap e56⟩)]⟩ rfl rfl ?_
      refine AWP.loopM (S := fun x_417 : Int × (List Int) × (List R56) => ⟨[(2,.ptr 1 0),(6,.own 2 1 0 x_417.2.1.length),(8,rW false y_3 e56),(9,.own 3 2 0 x_417.2.2.length),(10,iW x_315.1),(11,iW x_417.1)],[(1,⟨24,false,(pW β1 β2 a0)⟩),(2,⟨3,true,x_417.2.1.flatMap eW⟩),(3,⟨78,true,x_417.2.2.flatMap e56⟩)]⟩) (x := ((0 : Int),x_315.2.1,x_315.2.2)) (fun nx_418 x_417 h => ?_) h
      unfold m40_L12 at h
      refine AWP.seq ?_
      obtain ⟨y_419,hy_419,h⟩ := bindS h
      refine AWP.sv (.cons (.move (lt1 rfl) (.t rfl))<| .cons (.move (lt1 rfl) (.t rfl))<| .cons (.move (lt1 rfl) (.t rfl))<| .cons (.indexRd (enc := e56) (lt1 rfl) (.t rfl) (.t rfl) Try.underlying49 sz78 encR56_len rfl hy_419)<| .cons (.fieldR (lt1 rfl) (.t rfl) fld78_1 rfl)<| .cons (.loadR (v := iW y_419.Cq) (lt1 rfl) (.t rfl) one3 rfl)<| .cons (.lss (lt1 rfl) (.t rfl) (.t rfl))<| .nil _ _ _) ⟨[(2,.ptr 1 0),(6,.own 2 1 0 x_417.2.1.length),(8,rW false y_3 e56),(9,.own 3 2 0 x_417.2.2.length),(10,iW x_315.1),(11,iW x_417.1),(46,bW (decide (x_417.1 < y_419.Cq)))],[(1,⟨24,false,(pW β1 β2 a0)⟩),(2,⟨3,true,x_417.2.1.flatMap eW⟩),(3,⟨78,true,x_417.2.2.flatMap e56⟩)]⟩ rfl rfl ?_
      refine AWP.cond (.t rfl) (fun hc => ?_) (fun hc => ?_)
      ·have h := iteT hc h
       refine AWP.skip ?_
       refine AWP.seq ?_
       refine AWP.block ?_
       obtain ⟨y_420,hy_420,h⟩ := bindS h
       obtain ⟨l4_421,hl4_421,h⟩ := bindS h
       refine AWP.sv (.cons (.buildSlice (t := 4) (out := ([] : List Int).flatMap eW) (lt1 rfl) (nm rfl) (.nil) Try.underlying22 zero3 el3 (by decide) (by decide) rfl (still_all (encI_still .i64) _))<| .cons (.move (lt1 rfl) (.t rfl))<| .cons (.move (lt1 rfl) (.t rfl))<| .cons (.indexRd (enc := e56) (lt1 rfl) (.t rfl) (.t rfl) Try.underlying49 sz78 encR56_len rfl hy_420)<| .cons (.fieldR (lt1 rfl) (.t rfl) fld78_0 rfl)<| .cons (.loadR (v := rW false y_420.Pq eW) (lt1 rfl) (.t rfl) one22 rfl)<| .cons (.app (enc := eW) (lt1 rfl) (nm rfl) (.t rfl) (Src.rd (.t rfl) (flatMap_length (encI_len .i64) _) (one_all (encI_one .i64) _) (.inl rfl)) Try.underlying22 ⟨_,Try.underlying22,by intro k hk; cases hk⟩ el3 rfl (encI_len .i64) rfl rfl (by decide) hl4_421)<| .cons (.assign (lt1 rfl) (.t rfl))<| .nil _ _ _) ⟨[(2,.ptr 1 0),(6,.own 2 1 0 x_417.2.1.length),(8,rW false y_3 e56),(9,.own 3 2 0 x_417.2.2.length),(10,iW x_315.1),(11,iW x_417.1),(12,.own 4 1 0 l4_421.length)],[(4,⟨3,true,l4_421.flatMap eW⟩),(1,⟨24,false,(pW β1 β2 a0)⟩),(2,⟨3,true,x_417.2.1.flatMap eW⟩),(3,⟨78,true,x_417.2.2.flatMap e56⟩)]⟩ rfl rfl ?_
       refine AWP.sv (.cons (.assign (lt1 rfl) (.const _ _ _))<| .nil _ _ _) ⟨[(2,.ptr 1 0),(6,.own 2 1 0 x_417.2.1.length),(8,rW false y_3 e56),(9,.own 3 2 0 x_417.2.2.length),(10,iW x_315.1),(11,iW x_417.1),(12,.own 4 1 0 l4_421.length),(13,bW false)],[(4,⟨3,true,l4_421.flatMap eW⟩),(1,⟨24,false,(pW β1 β2 a0)⟩),(2,⟨3,true,x_417.2.1.flatMap eW⟩),(3,⟨78,true,x_417.2.2.flatMap e56⟩)]⟩ rfl rfl ?_
       refine AWP.seq ?_
       refine AWP.sv (.cons (.assign (lt1 rfl) (.const _ _ _))<| .nil _ _ _) ⟨[(2,.ptr 1 0),(6,.own 2 1 0 x_417.2.1.length),(8,rW false y_3 e56),(9,.own 3 2 0 x_417.2.2.length),(10,iW x_315.1),(11,iW x_417.1),(12,.own 4 1 0 l4_421.length),(13,bW false),(14,iW (0 : Int))],[(4,⟨3,true,l4_421.flatMap eW⟩),(1,⟨24,false,(pW β1 β2 a0)⟩),(2,⟨3,true,x_417.2.1.flatMap eW⟩),(3,⟨78,true,x_417.2.2.flatMap e56⟩)]⟩ rfl rfl ?_
       refine AWP.joinB' (S := fun p_462 : Bool × (List Int) × (List Int) => ⟨[(2,.ptr 1 0),(6,.own 2 1 0 p_462.2.1.length),(8,rW false y_3 e56),(9,.own 3 2 0 x_417.2.2.length),(10,iW x_315.1),(11,iW x_417.1),(12,.own 4 1 0 p_462.2.2.length),(13,bW p_462.1)],[(1,⟨24,false,(pW β1 β2 a0)⟩),(2,⟨3,true,p_462.2.1.flatMap eW⟩),(3,⟨78,true,x_417.2.2.flatMap e56⟩),(4,⟨3,true,p_462.2.2.flatMap eW⟩)]⟩) h (fun p_462 h => ?_) (fun k_463 h => ?_)
       ·refine AWP.sv (.cons (.move (lt1 rfl) (.t rfl))<| .nil _ _ _) ⟨[(2,.ptr 1 0),(6,.own 2 1 0 p_462.2.1.length),(8,rW false y_3 e56),(9,.own 3 2 0 x_417.2.2.length),(10,iW x_315.1),(11,iW x_417.1),(12,.own 4 1 0 p_462.2.2.length),(99,bW p_462.1)],[(1,⟨24,false,(pW β1 β2 a0)⟩),(2,⟨3,true,p_462.2.1.flatMap eW⟩),(3,⟨78,true,x_417.2.2.flatMap e56⟩),(4,⟨3,true,p_462.2.2.flatMap eW⟩)]⟩ rfl rfl ?_
        refine AWP.join' (S := fun p_465 : (List R56) => ⟨[(2,.ptr 1 0),(6,.own 2 1 0 p_462.2.1.length),(8,rW false y_3 e56),(9,.own 3 2 0 p_465.length),(10,iW x_315.1),(11,iW x_417.1)],[(1,⟨24,false,(pW β1 β2 a0)⟩),(2,⟨3,true,p_462.2.1.flatMap eW⟩),(3,⟨78,true,p_465.flatMap e56⟩)]⟩) h (fun p_465 h => ?_) (fun k_466 h => ?_)
        ·obtain ⟨t11_467,ht11_467,h⟩ := letS h
         refine AWP.rg (.cons (.move (lt1 rfl) (.t rfl))<| .cons (.add (lt1 rfl) (.t rfl) (.const _ _ _))<| .cons (.assign (lt1 rfl) (.t rfl))<| .nil _ _ _) ?_
         exact endJ (t11_467,p_462.2.1,p_465) h (by subst ht11_467; exact VC.sub (.of rfl) (.of rfl))
        ·refine AWP.cond (.t rfl) (fun hc => ?_) (fun hc => ?_)
         ·have h := iteT hc h
          obtain ⟨l3_464,hl3_464,h⟩ := bindS h
          refine AWP.rg (.cons (.move (lt1 rfl) (.t rfl))<| .cons (.move (lt1 rfl) (.t rfl))<| .vc (VC.frz (d := 101) (t := 4) rfl rfl (encI_len .i64))<| .cons (.buildO (offs := [(0,1),(1,1)]) (lt1 rfl) (.cons (.t rfl) (by first | exact ⟨rfl,rfl⟩ | rfl) (.cons (.const _ _ _) (by first | exact ⟨rfl,rfl⟩ | rfl) (.nil))) zero78 offs78 rfl)<| .cons (.buildSlice (t := 5) (out := ([(R56.mk p_462.2.2 (1 : Int))] : List R56).flatMap e56) (lt1 rfl) (nm rfl) (.cons (.t rfl) (by first | exact ⟨rfl,rfl⟩ | rfl) (.nil)) Try.underlying49 zero78 el78 (by decide) (by decide) rfl (still_all encR56_still _))<| .cons (.app (enc := e56) (lt1 rfl) (nm rfl) (.t rfl) (Src.own (.t rfl) rfl (lendAll encR56_len _) (flatMap_length encR56_len _) (one_all encR56_one _) (.inl rfl)) Try.underlying49 ⟨_,Try.underlying49,by intro k hk; cases hk⟩ el78 rfl encR56_len rfl rfl (by decide) hl3_464)<| .cons (.assign (lt1 rfl) (.t rfl))<| .nil _ _ _) ?_
          exact endJ l3_464 h (VC.sub (.of rfl) (.of rfl))
         ·have h := iteF hc h
          refine AWP.skip ?_
          exact endJ x_417.2.2 h (VC.sub (.of rfl) (.of rfl))
       ·refine AWP.vs ⟨[(2,.ptr 1 0),(6,.own 2 1 0 x_417.2.1.length),(8,rW false y_3 e56),(9,.own 3 2 0 x_417.2.2.length),(10,iW x_315.1),(11,iW x_417.1),(12,.own 4 1 0 l4_421.length),(13,bW false),(14,iW (0 : Int))],[(1,⟨24,false,(pW β1 β2 a0)⟩),(2,⟨3,true,x_417.2.1.flatMap eW⟩),(3,⟨78,true,x_417.2.2.flatMap e56⟩),(4,⟨3,true,l4_421.flatMap eW⟩)]⟩ rfl rfl ?_
        refine AWP.loopM (S := fun x_448 : Bool × Int × (List Int) × (List Int) => ⟨[(2,.ptr 1 0),(6,.own 2 1 0 x_448.2.2.1.length),(8,rW false y_3 e56),(9,.own 3 2 0 x_417.2.2.length),(10,iW x_315.1),(11,iW x_417.1),(12,.own 4 1 0 x_448.2.2.2.length),(13,bW x_448.1),(14,iW x_448.2.1)],[(1,⟨24,false,(pW β1 β2 a0)⟩),(2,⟨3,true,x_448.2.2.1.flatMap eW⟩),(3,⟨78,true,x_417.2.2.flatMap e56⟩),(4,⟨3,true,x_448.2.2.2.flatMap eW⟩)]⟩) (x := (false,(0 : Int),x_417.2.1,l4_421)) (fun nx_449 x_448 h => ?_) h
        unfold m40_L13 at h
        refine AWP.seq ?_
        refine AWP.sv (.cons (.move (lt1 rfl) (.t rfl))<| .cons (.move (lt1 rfl) (.t rfl))<| .cons (.lenOwn (lt1 rfl) (.t rfl) Try.underlying22)<| .cons (.lss (lt1 rfl) (.t rfl) (.t rfl))<| .nil _ _ _) ⟨[(2,.ptr 1 0),(6,.own 2 1 0 x_448.2.2.1.length),(8,rW false y_3 e56),(9,.own 3 2 0 x_417.2.2.length),(10,iW x_315.1),(11,iW x_417.1),(12,.own 4 1 0 x_448.2.2.2.length),(13,bW x_448.1),(14,iW x_448.2.1),(59,bW (decide (x_448.2.1 < (x_448.2.2.2.length : Int))))],[(1,⟨24,false,(pW β1 β2 a0)⟩),(2,⟨3,true,x_448.2.2.1.flatMap eW⟩),(3,⟨78,true,x_417.2.2.flatMap e56⟩),(4,⟨3,true,x_448.2.2.2.flatMap eW⟩)]⟩ rfl rfl ?_
        refine AWP.cond (.t rfl) (fun hc => ?_) (fun hc => ?_)
        ·have h := iteT hc h
         refine AWP.skip ?_
         refine AWP.seq ?_
         refine AWP.block ?_
         refine AWP.seq ?_
         obtain ⟨y_450,hy_450,h⟩ := bindS h
         obtain ⟨y_451,hy_451,h⟩ := bindS h
         obtain ⟨y_452,hy_452,h⟩ := bindS h
         obtain ⟨t15_453,ht15_453,h⟩ := letS h
         refine AWP.dw mixed [(2,.ptr 1 0),(6,.own 2 1 0 x_448.2.2.1.length),(8,rW false y_3 e56),(9,.own 3 2 0 x_417.2.2.length),(10,iW x_315.1),(11,iW x_417.1),(12,.own 4 1 0 x_448.2.2.2.length),(13,bW x_448.1),(14,iW x_448.2.1),(59,bW (decide (x_448.2.1 < (x_448.2.2.2.length : Int))))] [] [dO [6] 62 (.own 4 1 0 x_448.2.2.2.length),dO [8] 63 (iW x_448.2.1),dO [10,11] 64 (.ptr 4 (0 + (x_448.2.1).toNat * 1)),dO [12] 65 (iW y_450),dO [1] 66 (.own 2 1 0 x_448.2.2.1.length),dO [8] 67 (iW x_448.2.1),dO [14,15] 68 (.ptr 2 (0 + (x_448.2.1).toNat * 1)),dO [16] 69 (iW y_451),dO [0] 70 (.ptr 1 (0 + 1)),dO [18] 71 (rW β2 a0.Dq eW),dO [8] 72 (iW x_448.2.1),dO [19,20] 73 (.rptr β2 [iW y_452]),dO [21] 74 (iW y_452),dO [17,22] 75 (iW (IntKind.wrap .i64 (y_451 - y_452))),dO [13,23] 76 (iW (if (IntKind.wrap .i64 (y_451 - y_452)) < y_450 then (IntKind.wrap .i64 (y_451 - y_452)) else y_450)),dO [24] 15 (iW (if (IntKind.wrap .i64 (y_451 - y_452)) < y_450 then (IntKind.wrap .i64 (y_451 - y_452)) else y_450))] [] [[(1,⟨24,false,(pW β1 β2 a0)⟩),(2,⟨3,true,x_448.2.2.1.flatMap eW⟩),(3,⟨78,true,x_417.2.2.flatMap e56⟩),(4,⟨3,true,x_448.2.2.2.flatMap eW⟩)]] [[],[],[0,2],[0,3],[],[],[4,6],[4,7],[],[8,9],[],[8,11],[8,12],[4,13],[0,14],[0,15]] [0,1,2,3,4,5,6,7,8,25] rfl rfl (by kernel_rfl) rfl (.r rfl rfl (fun _ q => .move (lt1 rfl) (q.t 0 rfl))<| .p rfl (fun _ q _ => .move (lt1 rfl) (q.t 0 rfl))<| .r rfl rfl (fun _ q => .idxOwn (lt1 rfl) (q.t 0 rfl) (q.t 1 rfl) Try.underlying22 sz3 rfl hy_450)<| .r rfl rfl (fun _ q => .loadP (lt1 rfl) (q.t 0 rfl) one3 rfl (cell_at1 (encI_len .i64) hy_450) rfl)<| .r rfl rfl (fun _ q => .move (lt1 rfl) (q.t 0 rfl))<| .p rfl (fun _ q _ => .move (lt1 rfl) (q.t 0 rfl))<| .r rfl rfl (fun _ q => .idxOwn (lt1 rfl) (q.t 0 rfl) (q.t 1 rfl) Try.underlying22 sz3 rfl hy_451)<| .r rfl rfl (fun _ q => .loadP (lt1 rfl) (q.t 0 rfl) one3 rfl (cell_at1 (encI_len .i64) hy_451) rfl)<| .r rfl rfl (fun _ q => .fieldP (lt1 rfl) (q.t 0 rfl) fld24_1)<| .r rfl rfl (fun _ q => .loadP (lt1 rfl) (q.t 0 rfl) one22 rfl rfl rfl)<| .p rfl (fun _ q _ => .move (lt1 rfl) (q.t 0 rfl))<| .p rfl (fun _ q _ => .indexRd (enc := eW) (lt1 rfl) (q.t 0 rfl) (q.t 1 rfl) Try.underlying22 sz3 (encI_len .i64) rfl hy_452)<| .p rfl (fun _ q _ => .loadR (v := iW y_452) (lt1 rfl) (q.t 0 rfl) one3 rfl)<| .p rfl (fun _ q _ => .sub (lt1 rfl) (q.t 0 rfl) (q.t 1 rfl))<| .p rfl (fun _ q _ => .min2 (lt1 rfl) (q.t 0 rfl) (q.t 1 rfl))<| .p rfl (fun _ q _ => .assign (lt1 rfl) (q.t 0 rfl))<| .nil _) rfl rfl ?_
         refine AWP.vc (s' := ⟨[(2,.ptr 1 0),(6,.own 2 1 0 x_448.2.2.1.length),(8,rW false y_3 e56),(9,.own 3 2 0 x_417.2.2.length),(10,iW x_315.1),(11,iW x_417.1),(12,.own 4 1 0 x_448.2.2.2.length),(13,bW x_448.1),(14,iW x_448.2.1),(15,iW t15_453)],[(1,⟨24,false,(pW β1 β2 a0)⟩),(2,⟨3,true,x_448.2.2.1.flatMap eW⟩),(3,⟨78,true,x_417.2.2.flatMap e56⟩),(4,⟨3,true,x_448.2.2.2.flatMap eW⟩)]⟩) (by subst ht15_453; exact VC.sub (.of rfl) (.of rfl)) ?_
         obtain ⟨y_454,hy_454,h⟩ := bindS h
         obtain ⟨y_455,hy_455,h⟩ := bindS h
         obtain ⟨l4_456,hl4_456,h⟩ := bindS h
         refine AWP.sr (.cons (.move (lt1 rfl) (.t rfl))<| .cons (.move (lt1 rfl) (.t rfl))<| .cons (.idxOwn (lt1 rfl) (.t rfl) (.t rfl) Try.underlying22 sz3 rfl hy_454)<| .cons (.loadP (lt1 rfl) (.t rfl) one3 rfl (cell_at1 (encI_len .i64) hy_454) rfl)<| .cons (.move (lt1 rfl) (.t rfl))<| .cons (.sub (lt1 rfl) (.t rfl) (.t rfl))<| .cons (.idxOwn (lt1 rfl) (.t rfl) (.t rfl) Try.underlying22 sz3 rfl hy_455)<| .cons (.storeP (.t rfl) (.t rfl) sz3 rfl (lt_at1 (encI_len .i64) hy_455) rfl (fun _ => rfl) (set_at1 (encI_len .i64) hl4_456 rfl))<| .nil _ _ _) ?_
         refine AWP.vc (s' := ⟨[(2,.ptr 1 0),(6,.own 2 1 0 x_448.2.2.1.length),(8,rW false y_3 e56),(9,.own 3 2 0 x_417.2.2.length),(10,iW x_315.1),(11,iW x_417.1),(12,.own 4 1 0 l4_456.length),(13,bW x_448.1),(14,iW x_448.2.1),(15,iW t15_453)],[(1,⟨24,false,(pW β1 β2 a0)⟩),(2,⟨3,true,x_448.2.2.1.flatMap eW⟩),(3,⟨78,true,x_417.2.2.flatMap e56⟩),(4,⟨3,true,l4_456.flatMap eW⟩)]⟩) (VC.sub (.c rfl<| .c rfl<| .c rfl<| .c rfl<| .c rfl<| .c rfl<| .c (lenC (Eq.symm (setLen hl4_456)) rfl)<| .c rfl<| .c rfl<| .c rfl<| .n _) (.of rfl)) ?_
         obtain ⟨y_457,hy_457,h⟩ := bindS h
         obtain ⟨y_458,hy_458,h⟩ := bindS h
         obtain ⟨l2_459,hl2_459,h⟩ := bindS h
         refine AWP.sr (.cons (.move (lt1 rfl) (.t rfl))<| .cons (.move (lt1 rfl) (.t rfl))<| .cons (.idxOwn (lt1 rfl) (.t rfl) (.t rfl) Try.underlying22 sz3 rfl hy_457)<| .cons (.loadP (lt1 rfl) (.t rfl) one3 rfl (cell_at1 (encI_len .i64) hy_457) rfl)<| .cons (.move (lt1 rfl) (.t rfl))<| .cons (.sub (lt1 rfl) (.t rfl) (.t rfl))<| .cons (.idxOwn (lt1 rfl) (.t rfl) (.t rfl) Try.underlying22 sz3 rfl hy_458)<| .cons (.storeP (.t rfl) (.t rfl) sz3 rfl (lt_at1 (encI_len .i64) hy_458) rfl (fun _ => rfl) (set_at1 (encI_len .i64) hl2_459 rfl))<| .nil _ _ _) ?_
         refine AWP.vc (s' := ⟨[(2,.ptr 1 0),(6,.own 2 1 0 l2_459.length),(8,rW false y_3 e56),(9,.own 3 2 0 x_417.2.2.length),(10,iW x_315.1),(11,iW x_417.1),(12,.own 4 1 0 l4_456.length),(13,bW x_448.1),(14,iW x_448.2.1)],[(1,⟨24,false,(pW β1 β2 a0)⟩),(2,⟨3,true,l2_459.flatMap eW⟩),(3,⟨78,true,x_417.2.2.flatMap e56⟩),(4,⟨3,true,l4_456.flatMap eW⟩)]⟩) (VC.sub (.c rfl<| .c (lenC (Eq.symm (setLen hl2_459)) rfl)<| .c rfl<| .c rfl<| .c rfl<| .c rfl<| .c rfl<| .c rfl<| .c rfl<| .n _) (.of rfl)) ?_
         obtain ⟨y_460,hy_460,h⟩ := bindS h
         refine AWP.rg (.cons (.move (lt1 rfl) (.t rfl))<| .cons (.move (lt1 rfl) (.t rfl))<| .guard (j := 1) (dj := 92) rfl (lt1 rfl) rfl (lt1 rfl) (fun hg => .move (lt1 rfl) (.t rfl))<| .guard (j := 1) (dj := 92) rfl (lt1 rfl) rfl (lt1 rfl) (fun hg => .move (lt1 rfl) (.t rfl))<| .guard (j := 1) (dj := 92) rfl (lt1 rfl) rfl (lt1 rfl) (fun hg => .idxOwn (lt1 rfl) (.gd hg (.t rfl)) (.gd hg (.t rfl)) Try.underlying22 sz3 rfl (gdB hy_460 hg))<| .guard (j := 1) (dj := 92) rfl (lt1 rfl) rfl (lt1 rfl) (fun hg => .loadP (lt1 rfl) (.gd hg (.t rfl)) one3 rfl (cell_at1 (encI_len .i64) (gdB hy_460 hg)) rfl)<| .guard (j := 1) (dj := 92) rfl (lt1 rfl) rfl (lt1 rfl) (fun hg => .gtr (lt1 rfl) (.gd hg (.t rfl)) (.const _ _ _))<| .cons (.pickOr (lt1 rfl) (.t rfl) (.const _ _ _) (.t rfl))<| .cons (.assign (lt1 rfl) (.t rfl))<| .nil _ _ _) ?_
         refine AWP.vs ⟨[(2,.ptr 1 0),(6,.own 2 1 0 l2_459.length),(8,rW false y_3 e56),(9,.own 3 2 0 x_417.2.2.length),(10,iW x_315.1),(11,iW x_417.1),(12,.own 4 1 0 l4_456.length),(13,bW (x_448.1 || (decide ((0 : Int) < y_460)))),(14,iW x_448.2.1)],[(1,⟨24,false,(pW β1 β2 a0)⟩),(2,⟨3,true,l2_459.flatMap eW⟩),(3,⟨78,true,x_417.2.2.flatMap e56⟩),(4,⟨3,true,l4_456.flatMap eW⟩)]⟩ rfl rfl ?_
         obtain ⟨t14_461,ht14_461,h⟩ := letS h
         refine AWP.rg (.cons (.move (lt1 rfl) (.t rfl))<| .cons (.add (lt1 rfl) (.t rfl) (.const _ _ _))<| .cons (.assign (lt1 rfl) (.t rfl))<| .nil _ _ _) ?_
         exact endJ ((x_448.1 || (decide ((0 : Int) < y_460))),t14_461,l2_459,l4_456) h (by subst ht14_461; exact VC.sub (.of rfl) (.of rfl))
        ·have h := iteF hc h
         refine AWP.exit ?_
         exact endJ (x_448.1,x_448.2.2.1,x_448.2.2.2) h (VC.sub (.of rfl) (.of rfl))
      ·have h := iteF hc h
       refine AWP.exit ?_
       exact endJ (x_417.2.1,x_417.2.2) h (VC.sub (.of rfl) (.of rfl))
    ·have h := iteF hc h
     refine AWP.exit ?_
     exact endJ x_315.2.2 h (VC.sub (.of rfl) (.of rfl))
theorem c43 {β1 : Bool} (n : Nat) (a0 : (List R56)) {r : Int} (h : m43 n a0 = some r) : Spec Try.prog 43 [] [rW β1 a0 e56] [] (iW r) [] := by
 refine Spec.of (fn := Try.f43) Try.func43 Try.ntmps43 rfl rfl (le1 rfl) (fun w0 Zs Zb T0 ι0 => ?_)
 unfold m43 at h
 refine AWP.sv (.cons (.assign (lt1 rfl) (.const _ _ _))<| .nil _ _ _) ⟨[(0,rW β1 a0 e56)],[]⟩ rfl rfl ?_
 refine AWP.sv (.cons (.assign (lt1 rfl) (.const _ _ _))<| .nil _ _ _) ⟨[(0,rW β1 a0 e56),(3,iW (0 : Int))],[]⟩ rfl rfl ?_
 refine AWP.seq ?_
 refine AWP.sv (.cons (.assign (lt1 rfl) (.const _ _ _))<| .nil _ _ _) ⟨[(0,rW β1 a0 e56),(3,iW (0 : Int)),(4,iW (0 : Int))],[]⟩ rfl rfl ?_
 refine AWP.joinB' (S := fun p_10 : Int => ⟨[(3,iW p_10)],[]⟩) h (fun p_10 h => ?_) (fun k_11 h => ?_)
 ·refine AWP.sr (.cons (.move (lt1 rfl) (.t rfl))<| .cons (.assign (lt1 rfl) (.t rfl))<| .nil _ _ _) ?_
  refine AWP.ret ?_
  obtain rfl := Option.some.inj h
  refine retJ (Res.vc (s' := ⟨[(2,iW p_10)],[]⟩) (VC.sub (.of rfl) (.n _)) ?_)
  refine Res.drop (H := []) rfl ?_
  exact Res.of rfl (.cons (.tmp rfl) (.nil)) rfl rfl
 ·refine AWP.vs ⟨[(0,rW β1 a0 e56),(3,iW (0 : Int)),(4,iW (0 : Int))],[]⟩ rfl rfl ?_
  refine AWP.loopM (S := fun x_5 : Int × Int => ⟨[(0,rW β1 a0 e56),(3,iW x_5.1),(4,iW x_5.2)],[]⟩) (x := ((0 : Int),(0 : Int))) (fun nx_6 x_5 h => ?_) h
  unfold m43_L1 at h
  refine AWP.seq ?_
  refine AWP.sv (.cons (.move (lt1 rfl) (.t rfl))<| .cons (.move (lt1 rfl) (.t rfl))<| .cons (.lenRd (lt1 rfl) (.t rfl) Try.underlying49)<| .cons (.lss (lt1 rfl) (.t rfl) (.t rfl))<| .nil _ _ _) ⟨[(0,rW β1 a0 e56),(3,iW x_5.1),(4,iW x_5.2),(8,bW (decide (x_5.2 < (a0.length : Int))))],[]⟩ rfl rfl ?_
  refine AWP.cond (.t rfl) (fun hc => ?_) (fun hc => ?_)
  ·have h := iteT hc h
   refine AWP.skip ?_
   refine AWP.seq ?_
   refine AWP.block ?_
   obtain ⟨y_7,hy_7,h⟩ := bindS h
   obtain ⟨t3_8,ht3_8,h⟩ := letS h
   refine AWP.rg (.cons (.move (lt1 rfl) (.t rfl))<| .cons (.move (lt1 rfl) (.t rfl))<| .cons (.move (lt1 rfl) (.t rfl))<| .cons (.indexRd (enc := e56) (lt1 rfl) (.t rfl) (.t rfl) Try.underlying49 sz78 encR56_len rfl hy_7)<| .cons (.fieldR (lt1 rfl) (.t rfl) fld78_1 rfl)<| .cons (.loadR (v := iW y_7.Cq) (lt1 rfl) (.t rfl) one3 rfl)<| .cons (.add (lt1 rfl) (.t rfl) (.t rfl))<| .cons (.assign (lt1 rfl) (.t rfl))<| .nil _ _ _) ?_
   refine AWP.vc (s' := ⟨[(0,rW β1 a0 e56),(3,iW t3_8),(4,iW x_5.2)],[]⟩) (by subst ht3_8; exact VC.sub (.of rfl) (.n _)) ?_
   obtain ⟨t4_9,ht4_9,h⟩ := letS h
   refine AWP.rg (.cons (.move (lt1 rfl) (.t rfl))<| .cons (.add (lt1 rfl) (.t rfl) (.const _ _ _))<| .cons (.assign (lt1 rfl) (.t rfl))<| .nil _ _ _) ?_
   exact endJ (t3_8,t4_9) h (by subst ht4_9; exact VC.sub (.of rfl) (.n _))
  ·have h := iteF hc h
   refine AWP.exit ?_
   exact endJ x_5.1 h (VC.sub (.of rfl) (.n _))
theorem c8 {β1 : Bool} {β2 : Bool} (n : Nat) (a0 : R23) (a1 : (List R56)) {r : Bool} (h : m8 n a0 a1 = some r) : Spec Try.prog 8 [] [.agg (pW β1 β2 a0),rW false a1 e56] [] (bW r) [] := by
 refine Spec.of (fn := Try.f8) Try.func8 Try.ntmps8 rfl rfl (le1 rfl) (fun w0 Zs Zb T0 ι0 => ?_)
 unfold m8 at h
 refine AWP.sv (.cons (.box (t := 1) (n := 4) (lt1 rfl) (nm rfl) (.t rfl) (by first | exact ⟨rfl,rfl⟩ | rfl) rfl)<| .cons (.assign (lt1 rfl) (.const _ _ _))<| .nil _ _ _) ⟨[(1,rW false a1 e56),(2,.ptr 1 0)],[(1,⟨24,false,(pW β1 β2 a0)⟩)]⟩ rfl rfl ?_
 refine AWP.seq ?_
 obtain ⟨y_1,hy_1,h⟩ := bindS h
 obtain ⟨y_2,hy_2,h⟩ := bindS h
 obtain ⟨y_3,hy_3,h⟩ := bindS h
 refine AWP.sv (.cons (.call0 (bw := false) (lt1 rfl) (c10 n hy_1) (.nil) rfl)<| .cons (.not (lt1 rfl) (.t rfl))<| .cons (.move (lt1 rfl) (.t rfl))<| .guard (j := 2) (dj := 17) rfl (lt1 rfl) rfl (lt1 rfl) (fun hg => .loadPA (lt1 rfl) (.t rfl) agg24 rfl rfl rfl rfl)<| .guard (j := 2) (dj := 17) rfl (lt1 rfl) rfl (lt1 rfl) (fun hg => .call0 (bw := false) (lt1 rfl) (c11 (β1 := β1) (β2 := β2) n (R23.mk a0.Lq a0.Dq a0.Sq a0.Kq) (gdB hy_2 hg)) (.cons (.gd hg (.t rfl)) (.ren rfl) (.nil)) rfl)<| .guard (j := 2) (dj := 17) rfl (lt1 rfl) rfl (lt1 rfl) (fun hg => .not (lt1 rfl) (.gd hg (.t rfl)))<| .cons (.pickOr (lt1 rfl) (.t rfl) (.const _ _ _) (.t rfl))<| .cons (.move (lt1 rfl) (.t rfl))<| .guard (j := 7) (dj := 22) rfl (lt1 rfl) rfl (lt1 rfl) (fun hg => .move (lt1 rfl) (.t rfl))<| .guard (j := 7) (dj := 22) rfl (lt1 rfl) rfl (lt1 rfl) (fun hg => .call0 (bw := false) (lt1 rfl) (c29 (β1 := false) n a1 (gdB hy_3 hg)) (.cons (.gd hg (.t rfl)) (.ren rfl) (.nil)) rfl)<| .guard (j := 7) (dj := 22) rfl (lt1 rfl) rfl (lt1 rfl) (fun hg => .not (lt1 rfl) (.gd hg (.t rfl)))<| .cons (.pickOr (lt1 rfl) (.t rfl) (.const _ _ _) (.t rfl))<| .nil _ _ _) ⟨[(1,rW false a1 e56),(2,.ptr 1 0),(26,bW (((!y_1) || (!y_2)) || (!y_3)))],[(1,⟨24,false,(pW β1 β2 a0)⟩)]⟩ rfl rfl ?_
 refine AWP.cond (.t rfl) (fun hc => ?_) (fun hc => ?_)
 ·have h := iteT hc h
  obtain ⟨y_4,hy_4,h⟩ := bindS h
  refine AWP.sr (.cons (.call0 (bw := false) (lt1 rfl) (c10 n hy_4) (.nil) rfl)<| .cons (.assign (lt1 rfl) (.t rfl))<| .nil _ _ _) ?_
  refine AWP.ret ?_
  obtain rfl := Option.some.inj h
  refine retJ (Res.vc (s' := ⟨[(4,bW y_4)],[]⟩) (VC.sub (.of rfl) (.n _)) ?_)
  refine Res.drop (H := []) rfl ?_
  exact Res.of rfl (.cons (.tmp rfl) (.nil)) rfl rfl
 ·have h := iteF hc h
  refine AWP.skip ?_
  refine AWP.seq ?_
  obtain ⟨y_5,hy_5,h⟩ := bindS h
  refine AWP.dw mixed [(1,rW false a1 e56),(2,.ptr 1 0),(26,bW (((!y_1) || (!y_2)) || (!y_3)))] [] [⟨[1],0,1,some (28,.agg (pW β1 β2 a0)),[]⟩,⟨[0],0,2,some (29,rW false a1 e56),[]⟩,⟨[4],0,2,some (30,rW false y_5 e56),[]⟩,⟨[],0,0,some (5,.ptr 2 0),[2]⟩,⟨[6,3],1,1,none,[]⟩,⟨[5],0,2,some (6,rW false y_5 e56),[]⟩] [3,4] [[(1,⟨24,false,(pW β1 β2 a0)⟩)],[(2,⟨32,false,[.sc (.slice none 0 0),.sc (.slice none 0 0),iW (0 : Int),iW (0 : Int)]⟩),(1,⟨24,false,(pW β1 β2 a0)⟩)],[(2,⟨32,false,(pW β1 β2 a0)⟩),(1,⟨24,false,(pW β1 β2 a0)⟩)]] [[],[],[1,2],[],[0,4],[0,5]] [0,1,6,7] rfl rfl (by kernel_rfl) rfl (.read rfl (.c (.put (fun E hE => .loadPA (lt1 rfl) (hE.t 0 rfl) agg24 rfl rfl rfl rfl)) (.c (.put (fun E hE => .loadPA (lt1 rfl) (hE.t 0 rfl) agg24 rfl rfl rfl rfl)) (.n)))<| .p rfl (fun _ q _ => .move (lt1 rfl) (q.t 0 rfl))<| .p rfl (fun _ q _ => .call0 (bw := false) (lt1 rfl) (c32 n a1 hy_5) (.cons (q.t 0 rfl) (.ren rfl) (.nil)) rfl)<| .turn rfl rfl rfl rfl rfl (.new (fun E hE => .alloc (t := 2) (k := ⟨32,false,[.sc (.slice none 0 0),.sc (.slice none 0 0),iW (0 : Int),iW (0 : Int)]⟩) (lt1 rfl) (nm rfl) zero32 rfl rfl) rfl)<| .turn rfl rfl rfl rfl rfl (.store (fun E hE => .storePA (hE.t 0 rfl) (hE.t 1 rfl) sz32 rfl rfl (le1 rfl) (one_lit rfl) (by intro h; cases h) rfl) rfl)<| .p rfl (fun _ q _ => .assign (lt1 rfl) (q.t 0 rfl))<| .nil _) rfl rfl ?_
  refine AWP.vs ⟨[(1,rW false a1 e56),(2,.ptr 1 0),(5,.ptr 2 0),(6,rW false y_5 e56)],[(2,⟨32,false,(pW β1 β2 a0)⟩),(1,⟨24,false,(pW β1 β2 a0)⟩)]⟩ rfl rfl ?_
  obtain ⟨y_6,hy_6,h⟩ := bindS h
  refine AWP.sv (.cons (.loadPA (lt1 rfl) (.t rfl) agg32 rfl rfl rfl rfl)<| .cons (.move (lt1 rfl) (.t rfl))<| .cons (.call0 (bw := false) (lt1 rfl) (c33 (β1 := β1) (β2 := β2) (β3 := false) n (R23.mk a0.Lq a0.Dq a0.Sq a0.Kq) y_5 hy_6) (.cons (.t rfl) (.ren rfl) (.cons (.t rfl) (.ren rfl) (.nil))) rfl)<| .cons (.move (lt1 rfl) (.t rfl))<| .cons (.extract (lt1 rfl) (.t rfl) rfl)<| .cons (.extract (lt1 rfl) (.t rfl) rfl)<| .cons (.assign (lt1 rfl) (.t rfl))<| .cons (.assign (lt1 rfl) (.t rfl))<| .nil _ _ _) ⟨[(1,rW false a1 e56),(2,.ptr 1 0),(5,.ptr 2 0),(6,rW false y_5 e56),(7,rW false y_6.1 eW),(8,iW y_6.2)],[(2,⟨32,false,(pW β1 β2 a0)⟩),(1,⟨24,false,(pW β1 β2 a0)⟩)]⟩ rfl rfl ?_
  obtain ⟨y_7,hy_7,h⟩ := bindS h
  refine AWP.sv (.cons (.loadPA (lt1 rfl) (.t rfl) agg24 rfl rfl rfl rfl)<| .cons (.move (lt1 rfl) (.t rfl))<| .cons (.call0 (bw := false) (lt1 rfl) (c38 (β1 := β1) (β2 := β2) (β3 := false) n (R23.mk a0.Lq a0.Dq a0.Sq a0.Kq) a1 hy_7) (.cons (.t rfl) (.ren rfl) (.cons (.t rfl) (.ren rfl) (.nil))) rfl)<| .cons (.move (lt1 rfl) (.t rfl))<| .cons (.extract (lt1 rfl) (.t rfl) rfl)<| .cons (.extract (lt1 rfl) (.t rfl) rfl)<| .cons (.assign (lt1 rfl) (.t rfl))<| .cons (.assign (lt1 rfl) (.t rfl))<| .nil _ _ _) ⟨[(1,rW false a1 e56),(2,.ptr 1 0),(5,.ptr 2 0),(6,rW false y_5 e56),(7,rW false y_6.1 eW),(8,iW y_6.2),(9,rW false y_7.1 eW),(10,iW y_7.2)],[(2,⟨32,false,(pW β1 β2 a0)⟩),(1,⟨24,false,(pW β1 β2 a0)⟩)]⟩ rfl rfl ?_
  obtain ⟨y_8,hy_8,h⟩ := bindS h
  refine AWP.sv (.cons (.loadPA (lt1 rfl) (.t rfl) agg32 rfl rfl rfl rfl)<| .cons (.move (lt1 rfl) (.t rfl))<| .cons (.call0 (bw := false) (lt1 rfl) (c39 (β1 := β1) (β2 := β2) n (R23.mk a0.Lq a0.Dq a0.Sq a0.Kq) y_5 hy_8) (.cons (.t rfl) (.ren rfl) (.cons (.t rfl) (.ren rfl) (.nil))) rfl)<| .cons (.move (lt1 rfl) (.t rfl))<| .cons (.extract (lt1 rfl) (.t rfl) rfl)<| .cons (.extract (lt1 rfl) (.t rfl) rfl)<| .cons (.assign (lt1 rfl) (.t rfl))<| .cons (.assign (lt1 rfl) (.t rfl))<| .nil _ _ _) ⟨[(1,rW false a1 e56),(2,.ptr 1 0),(5,.ptr 2 0),(6,rW false y_5 e56),(7,rW false y_6.1 eW),(8,iW y_6.2),(9,rW false y_7.1 eW),(10,iW y_7.2),(11,rW false y_8.1 e56),(12,iW y_8.2)],[(2,⟨32,false,(pW β1 β2 a0)⟩),(1,⟨24,false,(pW β1 β2 a0)⟩)]⟩ rfl rfl ?_
  obtain ⟨y_9,hy_9,h⟩ := bindS h
  refine AWP.sv (.cons (.loadPA (lt1 rfl) (.t rfl) agg24 rfl rfl rfl rfl)<| .cons (.move (lt1 rfl) (.t rfl))<| .cons (.call0 (bw := false) (lt1 rfl) (c40 (β1 := β1) (β2 := β2) (β3 := false) n (R23.mk a0.Lq a0.Dq a0.Sq a0.Kq) a1 hy_9) (.cons (.t rfl) (.ren rfl) (.cons (.t rfl) (.ren rfl) (.nil))) rfl)<| .cons (.move (lt1 rfl) (.t rfl))<| .cons (.extract (lt1 rfl) (.t rfl) rfl)<| .cons (.extract (lt1 rfl) (.t rfl) rfl)<| .cons (.assign (lt1 rfl) (.t rfl))<| .cons (.assign (lt1 rfl) (.t rfl))<| .nil _ _ _) ⟨[(1,rW false a1 e56),(2,.ptr 1 0),(5,.ptr 2 0),(6,rW false y_5 e56),(7,rW false y_6.1 eW),(8,iW y_6.2),(9,rW false y_7.1 eW),(10,iW y_7.2),(11,rW false y_8.1 e56),(12,iW y_8.2),(13,rW false y_9.1 e56),(14,iW y_9.2)],[(2,⟨32,false,(pW β1 β2 a0)⟩),(1,⟨24,false,(pW β1 β2 a0)⟩)]⟩ rfl rfl ?_
  refine AWP.seq ?_
  obtain ⟨y_10,hy_10,h⟩ := bindS h
  obtain ⟨y_11,hy_11,h⟩ := bindS h
  obtain ⟨y_12,hy_12,h⟩ := bindS h
  obtain ⟨y_13,hy_13,h⟩ := bindS h
  obtain ⟨y_14,hy_14,h⟩ := bindS h
  obtain ⟨y_15,hy_15,h⟩ := bindS h
  obtain ⟨y_16,hy_16,h⟩ := bindS h
  obtain ⟨y_17,hy_17,h⟩ := bindS h
  obtain ⟨y_18,hy_18,h⟩ := bindS h
  obtain ⟨y_19,hy_19,h⟩ := bindS h
  obtain ⟨y_20,hy_20,h⟩ := bindS h
  refine AWP.dw mixed [(1,rW false a1 e56),(2,.ptr 1 0),(5,.ptr 2 0),(6,rW false y_5 e56),(7,rW false y_6.1 eW),(8,iW y_6.2),(9,rW false y_7.1 eW),(10,iW y_7.2),(11,rW false y_8.1 e56),(12,iW y_8.2),(13,rW false y_9.1 e56),(14,iW y_9.2)] [] [dO [5] 55 (iW y_6.2),dO [7] 56 (iW y_7.2),dO [12,13] 57 (bW (decide (y_6.2 = y_7.2))),dO [14] 58 (bW (decide (y_6.2 = y_7.2))),dO [15,4] 59 (.gd (decide (y_6.2 = y_7.2)) (rW false y_6.1 eW)),dO [15,6] 60 (.gd (decide (y_6.2 = y_7.2)) (rW false y_7.1 eW)),dO [15,16,17] 61 (.gd (decide (y_6.2 = y_7.2)) (bW y_10)),dO [15,18] 62 (bW ((decide (y_6.2 = y_7.2)) && y_10)),dO [19] 63 (bW ((decide (y_6.2 = y_7.2)) && y_10)),dO [20,9] 64 (.gd ((decide (y_6.2 = y_7.2)) && y_10) (iW y_8.2)),dO [20,11] 65 (.gd ((decide (y_6.2 = y_7.2)) && y_10) (iW y_9.2)),dO [20,21,22] 66 (.gd ((decide (y_6.2 = y_7.2)) && y_10) (bW (decide (y_8.2 = y_9.2)))),dO [20,23] 67 (bW (((decide (y_6.2 = y_7.2)) && y_10) && (decide (y_8.2 = y_9.2)))),dO [24] 68 (bW (((decide (y_6.2 = y_7.2)) && y_10) && (decide (y_8.2 = y_9.2)))),dO [25,8] 69 (.gd (((decide (y_6.2 = y_7.2)) && y_10) && (decide (y_8.2 = y_9.2))) (rW false y_8.1 e56)),dO [25,26] 70 (.gd (((decide (y_6.2 = y_7.2)) && y_10) && (decide (y_8.2 = y_9.2))) (rW false y_11 e56)),dO [25,10] 71 (.gd (((decide (y_6.2 = y_7.2)) && y_10) && (decide (y_8.2 = y_9.2))) (rW false y_9.1 e56)),dO [25,27,28] 72 (.gd (((decide (y_6.2 = y_7.2)) && y_10) && (decide (y_8.2 = y_9.2))) (bW y_12)),dO [25,29] 73 (bW ((((decide (y_6.2 = y_7.2)) && y_10) && (decide (y_8.2 = y_9.2))) && y_12)),dO [30] 74 (bW ((((decide (y_6.2 = y_7.2)) && y_10) && (decide (y_8.2 = y_9.2))) && y_12)),dO [31,2] 75 (.gd ((((decide (y_6.2 = y_7.2)) && y_10) && (decide (y_8.2 = y_9.2))) && y_12) (.agg (pW β1 β2 a0))),dO [31,3] 76 (.gd ((((decide (y_6.2 = y_7.2)) && y_10) && (decide (y_8.2 = y_9.2))) && y_12) (rW false y_5 e56)),dO [31,32,33] 77 (.gd ((((decide (y_6.2 = y_7.2)) && y_10) && (decide (y_8.2 = y_9.2))) && y_12) (bW y_13)),dO [31,1] 78 (.gd ((((decide (y_6.2 = y_7.2)) && y_10) && (decide (y_8.2 = y_9.2))) && y_12) (.agg (pW β1 β2 a0))),dO [31,0] 79 (.gd ((((decide (y_6.2 = y_7.2)) && y_10) && (decide (y_8.2 = y_9.2))) && y_12) (rW false a1 e56)),dO [31,35,36] 80 (.gd ((((decide (y_6.2 = y_7.2)) && y_10) && (decide (y_8.2 = y_9.2))) && y_12) (bW y_14)),dO [31,34,37] 81 (.gd ((((decide (y_6.2 = y_7.2)) && y_10) && (decide (y_8.2 = y_9.2))) && y_12) (bW (y_13 == y_14))),dO [31,38] 82 (bW (((((decide (y_6.2 = y_7.2)) && y_10) && (decide (y_8.2 = y_9.2))) && y_12) && (y_13 == y_14))),dO [39] 83 (bW (((((decide (y_6.2 = y_7.2)) && y_10) && (decide (y_8.2 = y_9.2))) && y_12) && (y_13 == y_14))),dO [40,3] 84 (.gd (((((decide (y_6.2 = y_7.2)) && y_10) && (decide (y_8.2 = y_9.2))) && y_12) && (y_13 == y_14)) (rW false y_5 e56)),dO [40,41] 85 (.gd (((((decide (y_6.2 = y_7.2)) && y_10) && (decide (y_8.2 = y_9.2))) && y_12) && (y_13 == y_14)) (iW y_15)),dO [40,0] 86 (.gd (((((decide (y_6.2 = y_7.2)) && y_10) && (decide (y_8.2 = y_9.2))) && y_12) && (y_13 == y_14)) (rW false a1 e56)),dO [40,43] 87 (.gd (((((decide (y_6.2 = y_7.2)) && y_10) && (decide (y_8.2 = y_9.2))) && y_12) && (y_13 == y_14)) (iW y_16)),dO [40,42,44] 88 (.gd (((((decide (y_6.2 = y_7.2)) && y_10) && (decide (y_8.2 = y_9.2))) && y_12) && (y_13 == y_14)) (bW (decide (y_15 = y_16)))),dO [40,45] 89 (bW ((((((decide (y_6.2 = y_7.2)) && y_10) && (decide (y_8.2 = y_9.2))) && y_12) && (y_13 == y_14)) && (decide (y_15 = y_16)))),dO [46] 90 (bW ((((((decide (y_6.2 = y_7.2)) && y_10) && (decide (y_8.2 = y_9.2))) && y_12) && (y_13 == y_14)) && (decide (y_15 = y_16)))),dO [47,3] 91 (.gd ((((((decide (y_6.2 = y_7.2)) && y_10) && (decide (y_8.2 = y_9.2))) && y_12) && (y_13 == y_14)) && (decide (y_15 = y_16))) (rW false y_5 e56)),dO [47,48] 92 (.gd ((((((decide (y_6.2 = y_7.2)) && y_10) && (decide (y_8.2 = y_9.2))) && y_12) && (y_13 == y_14)) && (decide (y_15 = y_16))) (rW false y_17 e56)),dO [47,49] 93 (.gd ((((((decide (y_6.2 = y_7.2)) && y_10) && (decide (y_8.2 = y_9.2))) && y_12) && (y_13 == y_14)) && (decide (y_15 = y_16))) (rW false y_18 e56)),dO [47,0] 94 (.gd ((((((decide (y_6.2 = y_7.2)) && y_10) && (decide (y_8.2 = y_9.2))) && y_12) && (y_13 == y_14)) && (decide (y_15 = y_16))) (rW false a1 e56)),dO [47,51] 95 (.gd ((((((decide (y_6.2 = y_7.2)) && y_10) && (decide (y_8.2 = y_9.2))) && y_12) && (y_13 == y_14)) && (decide (y_15 = y_16))) (rW false y_19 e56)),dO [47,50,52] 96 (.gd ((((((decide (y_6.2 = y_7.2)) && y_10) && (decide (y_8.2 = y_9.2))) && y_12) && (y_13 == y_14)) && (decide (y_15 = y_16))) (bW y_20)),dO [47,53] 97 (bW (((((((decide (y_6.2 = y_7.2)) && y_10) && (decide (y_8.2 = y_9.2))) && y_12) && (y_13 == y_14)) && (decide (y_15 = y_16))) && y_20)),dO [54] 4 (bW (((((((decide (y_6.2 = y_7.2)) && y_10) && (decide (y_8.2 = y_9.2))) && y_12) && (y_13 == y_14)) && (decide (y_15 = y_16))) && y_20))] [] [[(2,⟨32,false,(pW β1 β2 a0)⟩),(1,⟨24,false,(pW β1 β2 a0)⟩)]] [[],[],[0,2],[0,3],[0,4],[0,4],[0,6],[0,7],[0,8],[0,9],[0,9],[0,11],[0,12],[0,13],[0,14],[0,15],[0,14],[0,17],[0,18],[0,19],[0,20],[0,20],[0,22],[0,20],[0,20],[0,25],[0,26],[0,27],[0,28],[0,29],[0,30],[0,29],[0,32],[0,33],[0,34],[0,35],[0,36],[0,37],[0,38],[0,36],[0,40],[0,41],[0,42],[0,43]] [55] rfl rfl (by kernel_rfl) rfl (.p rfl (fun _ q _ => .move (lt1 rfl) (q.t 0 rfl))<| .p rfl (fun _ q _ => .move (lt1 rfl) (q.t 0 rfl))<| .p rfl (fun _ q _ => .eql (lt1 rfl) (q.t 0 rfl) (q.t 1 rfl))<| .p rfl (fun _ q _ => .move (lt1 rfl) (q.t 0 rfl))<| .gt rfl rfl rfl rfl rfl (fun hg _ q _ => .move (lt1 rfl) (q.t 1 rfl))<| .gt rfl rfl rfl rfl rfl (fun hg _ q _ => .move (lt1 rfl) (q.t 1 rfl))<| .gt rfl rfl rfl rfl rfl (fun hg _ q _ => .call0 (bw := false) (lt1 rfl) (c34 (β1 := false) (β2 := false) n y_6.1 y_7.1 (gdB hy_10 hg)) (.cons (.gd hg (q.t 1 rfl)) (.ren rfl) (.cons (.gd hg (q.t 2 rfl)) (.ren rfl) (.nil))) rfl)<| .p rfl (fun _ q _ => .pickAnd (lt1 rfl) (q.t 0 rfl) (q.t 1 rfl) (.const _ _ _))<| .p rfl (fun _ q _ => .move (lt1 rfl) (q.t 0 rfl))<| .gt rfl rfl rfl rfl rfl (fun hg _ q _ => .move (lt1 rfl) (q.t 1 rfl))<| .gt rfl rfl rfl rfl rfl (fun hg _ q _ => .move (lt1 rfl) (q.t 1 rfl))<| .gt rfl rfl rfl rfl rfl (fun hg _ q _ => .eql (lt1 rfl) (.gd hg (q.t 1 rfl)) (.gd hg (q.t 2 rfl)))<| .p rfl (fun _ q _ => .pickAnd (lt1 rfl) (q.t 0 rfl) (q.t 1 rfl) (.const _ _ _))<| .p rfl (fun _ q _ => .move (lt1 rfl) (q.t 0 rfl))<| .gt rfl rfl rfl rfl rfl (fun hg _ q _ => .move (lt1 rfl) (q.t 1 rfl))<| .gt rfl rfl rfl rfl rfl (fun hg _ q _ => .call0 (bw := false) (lt1 rfl) (c37 n y_8.1 (gdB hy_11 hg)) (.cons (.gd hg (q.t 1 rfl)) (.ren rfl) (.nil)) rfl)<| .gt rfl rfl rfl rfl rfl (fun hg _ q _ => .move (lt1 rfl) (q.t 1 rfl))<| .gt rfl rfl rfl rfl rfl (fun hg _ q _ => .call0 (bw := false) (lt1 rfl) (c36 (β1 := false) (β2 := false) n y_11 y_9.1 (gdB hy_12 hg)) (.cons (.gd hg (q.t 1 rfl)) (.ren rfl) (.cons (.gd hg (q.t 2 rfl)) (.ren rfl) (.nil))) rfl)<| .p rfl (fun _ q _ => .pickAnd (lt1 rfl) (q.t 0 rfl) (q.t 1 rfl) (.const _ _ _))<| .p rfl (fun _ q _ => .move (lt1 rfl) (q.t 0 rfl))<| .rt rfl rfl rfl rfl rfl rfl (fun hg _ q => .loadPA (lt1 rfl) (q.t 1 rfl) agg32 rfl rfl rfl rfl)<| .gt rfl rfl rfl rfl rfl (fun hg _ q _ => .move (lt1 rfl) (q.t 1 rfl))<| .gt rfl rfl rfl rfl rfl (fun hg _ q _ => .call0 (bw := false) (lt1 rfl) (c41 (β1 := β1) (β2 := β2) (β3 := false) n (R23.mk a0.Lq a0.Dq a0.Sq a0.Kq) y_5 (gdB hy_13 hg)) (.cons (.gd hg (q.t 1 rfl)) (.ren rfl) (.cons (.gd hg (q.t 2 rfl)) (.ren rfl) (.nil))) rfl)<| .rt rfl rfl rfl rfl rfl rfl (fun hg _ q => .loadPA (lt1 rfl) (q.t 1 rfl) agg24 rfl rfl rfl rfl)<| .gt rfl rfl rfl rfl rfl (fun hg _ q _ => .move (lt1 rfl) (q.t 1 rfl))<| .gt rfl rfl rfl rfl rfl (fun hg _ q _ => .call0 (bw := false) (lt1 rfl) (c42 (β1 := β1) (β2 := β2) (β3 := false) n (R23.mk a0.Lq a0.Dq a0.Sq a0.Kq) a1 (gdB hy_14 hg)) (.cons (.gd hg (q.t 1 rfl)) (.ren rfl) (.cons (.gd hg (q.t 2 rfl)) (.ren rfl) (.nil))) rfl)<| .gt rfl rfl rfl rfl rfl (fun hg _ q _ => .eqlB (lt1 rfl) (.gd hg (q.t 1 rfl)) (.gd hg (q.t 2 rfl)) Try.underlying4)<| .p rfl (fun _ q _ => .pickAnd (lt1 rfl) (q.t 0 rfl) (q.t 1 rfl) (.const _ _ _))<| .p rfl (fun _ q _ => .move (lt1 rfl) (q.t 0 rfl))<| .gt rfl rfl rfl rfl rfl (fun hg _ q _ => .move (lt1 rfl) (q.t 1 rfl))<| .gt rfl rfl rfl rfl rfl (fun hg _ q _ => .call0 (bw := false) (lt1 rfl) (c35 (β1 := false) n y_5 (gdB hy_15 hg)) (.cons (.gd hg (q.t 1 rfl)) (.ren rfl) (.nil)) rfl)<| .gt rfl rfl rfl rfl rfl (fun hg _ q _ => .move (lt1 rfl) (q.t 1 rfl))<| .gt rfl rfl rfl rfl rfl (fun hg _ q _ => .call0 (bw := false) (lt1 rfl) (c43 (β1 := false) n a1 (gdB hy_16 hg)) (.cons (.gd hg (q.t 1 rfl)) (.ren rfl) (.nil)) rfl)<| .gt rfl rfl rfl rfl rfl (fun hg _ q _ => .eql (lt1 rfl) (.gd hg (q.t 1 rfl)) (.gd hg (q.t 2 rfl)))<| .p rfl (fun _ q _ => .pickAnd (lt1 rfl) (q.t 0 rfl) (q.t 1 rfl) (.const _ _ _))<| .p rfl (fun _ q _ => .move (lt1 rfl) (q.t 0 rfl))<| .gt rfl rfl rfl rfl rfl (fun hg _ q _ => .move (lt1 rfl) (q.t 1 rfl))<| .gt rfl rfl rfl rfl rfl (fun hg _ q _ => .call0 (bw := false) (lt1 rfl) (c31 n y_5 (gdB hy_17 hg)) (.cons (.gd hg (q.t 1 rfl)) (.ren rfl) (.nil)) rfl)<| .gt rfl rfl rfl rfl rfl (fun hg _ q _ => .call0 (bw := false) (lt1 rfl) (c37 n y_17 (gdB hy_18 hg)) (.cons (.gd hg (q.t 1 rfl)) (.ren rfl) (.nil)) rfl)<| .gt rfl rfl rfl rfl rfl (fun hg _ q _ => .move (lt1 rfl) (q.t 1 rfl))<| .gt rfl rfl rfl rfl rfl (fun hg _ q _ => .call0 (bw := false) (lt1 rfl) (c44 (β1 := false) n a1 (gdB hy_19 hg)) (.cons (.gd hg (q.t 1 rfl)) (.ren rfl) (.nil)) rfl)<| .gt rfl rfl rfl rfl rfl (fun hg _ q _ => .call0 (bw := false) (lt1 rfl) (c36 (β1 := false) (β2 := false) n y_18 y_19 (gdB hy_20 hg)) (.cons (.gd hg (q.t 1 rfl)) (.ren rfl) (.cons (.gd hg (q.t 2 rfl)) (.ren rfl) (.nil))) rfl)<| .p rfl (fun _ q _ => .pickAnd (lt1 rfl) (q.t 0 rfl) (q.t 1 rfl) (.const _ _ _))<| .p rfl (fun _ q _ => .assign (lt1 rfl) (q.t 0 rfl))<| .nil _) rfl rfl ?_
  refine AWP.ret ?_
  obtain rfl := Option.some.inj h
  refine retJ (Res.vc (s' := ⟨[(4,bW (((((((decide (y_6.2 = y_7.2)) && y_10) && (decide (y_8.2 = y_9.2))) && y_12) && (y_13 == y_14)) && (decide (y_15 = y_16))) && y_20))],[]⟩) (VC.sub (.of rfl) (.n _)) ?_)
  refine Res.drop (H := []) rfl ?_
  exact Res.of rfl (.cons (.tmp rfl) (.nil)) rfl rfl
end Go.AB
