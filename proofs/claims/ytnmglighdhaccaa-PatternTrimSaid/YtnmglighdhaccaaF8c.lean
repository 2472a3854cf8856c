import Derived.Test.YtnmglighdhaccaaProg
import Derived.Test.YtnmglighdhaccaaF8b
import Derived.KernelRfl
set_option linter.unusedVariables false
set_option maxRecDepth 20000
namespace Go.AB
open Go Go.Proofs
theorem c39 {β1 : Bool} {β2 : Bool} (n : Nat) (a0 : R23) (a1 : (List R56)) {r : ((List R56) × Int)} (h : m39 n a0 a1 = some r) : Spec Try.prog 39 [] [.agg [rW β1 a0.Lengths eW,rW β2 a0.Demand eW,iW a0.Stock,iW a0.Kerf],rW false a1 encR56] [] (.tup [rW false r.1 encR56,iW r.2]) [] := by
 refine Spec.ofR (fun r : ((List R56) × Int) => .tup [rW false r.1 encR56,iW r.2]) (fun r : ((List R56) × Int) => []) (rr := r) (fn := Try.f39) Try.func39 Try.ntmps39 rfl rfl (le1 rfl) (fun w0 Zs Zb T0 ι0 => ?_)
 unfold m39 at h
 refine AWPF.seq ?_
 refine AWPF.of fun d_ => AWP.region (.cons (.box (t := 1) (n := 4) (lt1 rfl) (nm rfl) (.t rfl) (by first | exact ⟨rfl,rfl⟩ | rfl) rfl)<| .cons (.assign (lt1 rfl) (.const _ _ _))<| .cons (.assign (lt1 rfl) (.const _ _ _))<| ARun.nil _ _ _) ?_
 refine AWPF.vc (s' := ⟨[(1,rW false a1 encR56),(2,.ptr 1 0)],[(1,⟨32,false,[rW β1 a0.Lengths eW,rW β2 a0.Demand eW,iW a0.Stock,iW a0.Kerf]⟩)]⟩) (fun d_ => VC.sub (.of rfl) (.of rfl)) ?_
 refine AWPF.seq ?_
 obtain ⟨y_1,hy_1,h⟩ := bindS h
 refine AWPF.of fun d_ => AWP.region (.cons (.loadPA (lt1 rfl) (.t rfl) agg32 rfl rfl rfl rfl)<| .cons (.move (lt1 rfl) (.t rfl))<| .cons (.call (σ := fun _ => 2) (bw := false) (lt1 rfl) (c33o (β1 := β1) (β2 := β2) (β3 := false) n (R23.mk a0.Lengths a0.Demand a0.Stock a0.Kerf) a1 hy_1) (.cons (.t rfl) (.ren rfl) (.cons (.t rfl) (.ren rfl) (.nil))) (CallOk.mk' (.n) rfl))<| .cons (.move (lt1 rfl) (.t rfl))<| .cons (.extract (lt1 rfl) (.t rfl) rfl)<| .cons (.extract (lt1 rfl) (.t rfl) rfl)<| .cons (.alloc (t := 3) (k := ⟨22,false,[.sc (.slice none 0 0)]⟩) (lt1 rfl) (nm rfl) zero22 rfl rfl)<| .cons (.storeP (.t rfl) (.t rfl) sz22 rfl (lt1 rfl) rfl (by intro h; cases h) rfl)<| .cons (.assign (lt1 rfl) (.t rfl))<| ARun.nil _ _ _) ?_
 refine AWPF.vc (s' := ⟨[(1,rW false a1 encR56),(2,.ptr 1 0),(6,.ptr 3 0),(7,iW y_1.2)],[(3,⟨22,false,[.own 2 1 0 y_1.1.length]⟩),(2,⟨3,true,y_1.1.flatMap eW⟩),(1,⟨32,false,[rW β1 a0.Lengths eW,rW β2 a0.Demand eW,iW a0.Stock,iW a0.Kerf]⟩)]⟩) (fun d_ => VC.sub (.of rfl) (.of rfl)) ?_
 refine AWPF.seq ?_
 refine AWPF.seq ?_
 refine AWPF.of fun d_ => AWP.region (.cons (.move (lt1 rfl) (.t rfl))<| .cons (.neq (lt1 rfl) (.t rfl) (.const _ _ _))<| ARun.nil _ _ _) ?_
 refine AWPF.vc (s' := ⟨[(1,rW false a1 encR56),(2,.ptr 1 0),(6,.ptr 3 0),(7,iW y_1.2),(20,bW (!decide (y_1.2 = (0 : Int))))],[(3,⟨22,false,[.own 2 1 0 y_1.1.length]⟩),(2,⟨3,true,y_1.1.flatMap eW⟩),(1,⟨32,false,[rW β1 a0.Lengths eW,rW β2 a0.Demand eW,iW a0.Stock,iW a0.Kerf]⟩)]⟩) (fun d_ => VC.sub (.of rfl) (.of rfl)) ?_
 refine AWPF.cond (fun d_ => .tmp rfl) (fun hc => ?_) (fun hc => ?_)
 ·have h := iteT hc h
  refine AWPF.seq ?_
  refine AWPF.of fun d_ => AWP.region (.cons (.move (lt1 rfl) (.t rfl))<| .cons (.assign (lt1 rfl) (.const _ _ _))<| .cons (.assign (lt1 rfl) (.t rfl))<| ARun.nil _ _ _) ?_
  refine AWPF.ret ?_
  obtain rfl := Option.some.inj h
  refine ⟨.inl rfl,_,rfl,fun w0 Zs Zb T0 ι0 => (Res.vc (s' := ⟨[(4,rW false ([] : List R56) encR56),(5,iW y_1.2)],[]⟩) (VC.trans (VC.nilRd (d := 4) false rfl) (VC.sub (.of rfl) (.n _))) ?_)⟩
  refine Res.drop (H := []) rfl ?_
  exact Res.of rfl (.cons (.tmp rfl) (.cons (.tmp rfl) (.nil))) rfl rfl
 ·have h := iteF hc h
  refine AWPF.skip ?_
  refine AWPF.seq ?_
  refine AWPF.seq ?_
  obtain ⟨y_2,hy_2,h⟩ := bindS h
  refine AWPF.of fun d_ => AWP.region (.cons (.loadPA (lt1 rfl) (.t rfl) agg32 rfl rfl rfl rfl)<| .cons (.move (lt1 rfl) (.t rfl))<| .cons (.call0 (bw := false) (lt1 rfl) (c41 (β1 := β1) (β2 := β2) (β3 := false) n (R23.mk a0.Lengths a0.Demand a0.Stock a0.Kerf) a1 hy_2) (.cons (.t rfl) (.ren rfl) (.cons (.t rfl) (.ren rfl) (.nil))) rfl)<| .cons (.not (lt1 rfl) (.t rfl))<| ARun.nil _ _ _) ?_
  refine AWPF.vc (s' := ⟨[(1,rW false a1 encR56),(2,.ptr 1 0),(6,.ptr 3 0),(25,bW (!y_2))],[(3,⟨22,false,[.own 2 1 0 y_1.1.length]⟩),(2,⟨3,true,y_1.1.flatMap eW⟩),(1,⟨32,false,[rW β1 a0.Lengths eW,rW β2 a0.Demand eW,iW a0.Stock,iW a0.Kerf]⟩)]⟩) (fun d_ => VC.sub (.of rfl) (.of rfl)) ?_
  refine AWPF.cond (fun d_ => .tmp rfl) (fun hc => ?_) (fun hc => ?_)
  ·have h := iteT hc h
   refine AWPF.seq ?_
   refine AWPF.of fun d_ => AWP.region (.cons (.assign (lt1 rfl) (.const _ _ _))<| .cons (.assign (lt1 rfl) (.const _ _ _))<| ARun.nil _ _ _) ?_
   refine AWPF.ret ?_
   obtain rfl := Option.some.inj h
   refine ⟨.inl rfl,_,rfl,fun w0 Zs Zb T0 ι0 => (Res.vc (s' := ⟨[(4,rW false ([] : List R56) encR56),(5,iW (18 : Int))],[]⟩) (VC.trans (VC.nilRd (d := 4) false rfl) (VC.sub (.of rfl) (.n _))) ?_)⟩
   refine Res.drop (H := []) rfl ?_
   exact Res.of rfl (.cons (.tmp rfl) (.cons (.tmp rfl) (.nil))) rfl rfl
  ·have h := iteF hc h
   refine AWPF.skip ?_
   refine AWPF.seq ?_
   refine AWPF.seq ?_
   refine AWPF.of fun d_ => AWP.region (.cons (.loadP (lt1 rfl) (.t rfl) one22 rfl rfl rfl)<| .cons (.lenOwn (lt1 rfl) (.t rfl) Try.underlying22)<| .cons (.move (lt1 rfl) (.const _ _ _))<| ARun.nil _ _ _) ?_
   refine AWPF.vc (s' := ⟨[(1,rW false a1 encR56),(2,.ptr 1 0),(6,.ptr 3 0),(27,iW (y_1.1.length : Int)),(28,iW (0 : Int))],[(3,⟨22,false,[.own 2 1 0 y_1.1.length]⟩),(2,⟨3,true,y_1.1.flatMap eW⟩),(1,⟨32,false,[rW β1 a0.Lengths eW,rW β2 a0.Demand eW,iW a0.Stock,iW a0.Kerf]⟩)]⟩) (fun d_ => VC.sub (.of rfl) (.of rfl)) ?_
   refine AWPF.joinB' (S := fun p_22 : (List Int) => ⟨[(1,rW false a1 encR56),(6,.ptr 3 0)],[(3,⟨22,false,[.own 2 1 0 p_22.length]⟩),(2,⟨3,true,p_22.flatMap eW⟩)]⟩) h (fun p_22 r h => ?_) (fun k_23 h => ?_)
   ·refine AWPF.seq ?_
    refine AWPF.of fun d_ => AWP.region (.cons (.alloc (t := 4) (k := ⟨53,false,[.sc (.slice none 0 0)]⟩) (lt1 rfl) (nm rfl) zero53 rfl rfl)<| ARun.nil _ _ _) ?_
    refine AWPF.vc (s' := ⟨[(1,rW false a1 encR56),(6,.ptr 3 0),(9,.ptr 4 0)],[(4,⟨53,false,[.sc (.slice none 0 0)]⟩),(3,⟨22,false,[.own 2 1 0 p_22.length]⟩),(2,⟨3,true,p_22.flatMap eW⟩)]⟩) (fun d_ => VC.sub (.of rfl) (.of rfl)) ?_
    refine AWPF.seq ?_
    refine AWPF.seq ?_
    obtain ⟨y_24,hy_24,h⟩ := bindS h
    obtain ⟨y_25,hy_25,h⟩ := bindS h
    refine AWPF.of fun d_ => AWP.region (.cons (.move (lt1 rfl) (.t rfl))<| .cons (.call0 (bw := false) (lt1 rfl) (c31 n a1 hy_24) (.cons (.t rfl) (.ren rfl) (.nil)) rfl)<| .cons (.call (σ := fun _ => 5) (bw := false) (lt1 rfl) (c60 (β1 := false) n y_24 hy_25) (.cons (.t rfl) (.ren rfl) (.nil)) (CallOk.mk' (.n) rfl))<| ARun.nil _ _ _) ?_
    refine AWPF.vc (s' := ⟨[(6,.ptr 3 0),(9,.ptr 4 0),(45,.clo (.func 69) [] [.ptr 5 0])],[(5,⟨53,false,[rW false y_24 encR56]⟩),(4,⟨53,false,[.sc (.slice none 0 0)]⟩),(3,⟨22,false,[.own 2 1 0 p_22.length]⟩),(2,⟨3,true,p_22.flatMap eW⟩)]⟩) (fun d_ => VC.sub (.of rfl) (.of rfl)) ?_
    refine AWPF.block ?_
    refine AWPF.vc (fun d_ => VC.trans (VC.newTag (t := 6) (E := 57) (nm rfl)) (VC.cell (t := 4) (i := 0) (v' := .own 6 2 0 0) rfl rfl rfl (fun _ _ _ _ h => nil_own h))) ?_
    obtain ⟨y_26,hy_26,h⟩ := bindS h
    refine AWPF.rangeG3 (T := 7) (Bk := fun e_27 : (List Int) => ⟨3,true,e_27.flatMap eW⟩) (σ := fun _ => 5) (Hp := fun x_110 : (List Int) × (List R56) => [(3,⟨22,false,[.own 2 1 0 x_110.1.length]⟩),(4,⟨53,false,[.own 6 2 0 x_110.2.length]⟩),(2,⟨3,true,x_110.1.flatMap eW⟩),(6,⟨57,true,x_110.2.flatMap encR56⟩)]) (Hb := fun (e_27 : (List Int)) (x_110 : (List Int) × (List R56)) => [(7,⟨3,true,e_27.flatMap eW⟩),(3,⟨22,false,[.own 2 1 0 x_110.1.length]⟩),(4,⟨53,false,[.own 6 2 0 x_110.2.length]⟩),(2,⟨3,true,x_110.1.flatMap eW⟩),(6,⟨57,true,x_110.2.flatMap encR56⟩)]) (env := [(6,.ptr 3 0),(9,.ptr 4 0)]) (x0 := (p_22,([] : List R56))) (KB := [3,4]) (envb := fun (e_27 : (List Int)) (x_110 : (List Int) × (List R56)) => [(6,.ptr 3 0),(9,.ptr 4 0),(10,.own 7 1 0 e_27.length)]) (M := fun _ _ => False) (i69 (β1 := false) n y_24 hy_26) (fun d_ => .tmp rfl) (fun d_ => .cons (.ren rfl) (.nil)) (.c rfl (.n)) rfl (.of rfl) (.of rfl) rfl h rfl (fun _ => rfl) (fun _ => rfl) (fun _ _ hv_ _ ht_ => ownT1 hv_ ht_) (fun l => ⟨by decide,fun _ => rfl,?_,?_⟩) (fun p_152 h => ?_) (fun _ _ h => h.elim)
    ·intro w0 Zs Zb T0 ι0 x_110 e_27
     refine AWP.vc (s' := ⟨[(6,.ptr 3 0),(9,.ptr 4 0),(46,.own 7 1 0 e_27.length)],[(7,⟨3,true,e_27.flatMap eW⟩),(3,⟨22,false,[.own 2 1 0 x_110.1.length]⟩),(4,⟨53,false,[.own 6 2 0 x_110.2.length]⟩),(2,⟨3,true,x_110.1.flatMap eW⟩),(6,⟨57,true,x_110.2.flatMap encR56⟩)]⟩) (VC.sub (.of rfl) (.of rfl)) ?_
     refine AWP.region (.cons (.assign (lt1 rfl) (.t rfl))<| ARun.nil _ _ _) ?_
     exact ⟨rfl,VC.sub (.of rfl) (.of rfl)⟩
    ·intro w0 Zs Zb T0 ι0 nx_111 x_110 e_27 h
     unfold m39_R4 at h
     refine AWP.block ?_
     refine AWP.seq ?_
     refine AWP.seq ?_
     refine AWP.region (.cons (.move (lt1 rfl) (.t rfl))<| .cons (.lenOwn (lt1 rfl) (.t rfl) Try.underlying22)<| .cons (.move (lt1 rfl) (.const _ _ _))<| ARun.nil _ _ _) ?_
     refine AWP.vc (s' := ⟨[(6,.ptr 3 0),(9,.ptr 4 0),(10,.own 7 1 0 e_27.length),(48,iW (e_27.length : Int)),(49,iW (0 : Int))],[(7,⟨3,true,e_27.flatMap eW⟩),(3,⟨22,false,[.own 2 1 0 x_110.1.length]⟩),(4,⟨53,false,[.own 6 2 0 x_110.2.length]⟩),(2,⟨3,true,x_110.1.flatMap eW⟩),(6,⟨57,true,x_110.2.flatMap encR56⟩)]⟩) (VC.sub (.of rfl) (.of rfl)) ?_
     refine AWP.joinB' (S := fun p_146 : (List Int) × (List Int) => ⟨[(6,.ptr 3 0),(9,.ptr 4 0),(10,.own 7 1 0 p_146.1.length)],[(3,⟨22,false,[.own 2 1 0 p_146.2.length]⟩),(4,⟨53,false,[.own 6 2 0 x_110.2.length]⟩),(7,⟨3,true,p_146.1.flatMap eW⟩),(2,⟨3,true,p_146.2.flatMap eW⟩),(6,⟨57,true,x_110.2.flatMap encR56⟩)]⟩) h (fun p_146 h => ?_) (fun k_147 h => ?_)
     ·refine AWP.seq ?_
      obtain ⟨y_148,hy_148,h⟩ := bindS h
      refine AWP.region (.cons (.move (lt1 rfl) (.t rfl))<| .cons (.call0 (bw := true) (lt1 rfl) (c61x1 (β1 := true) n p_146.1 hy_148) (.cons (.t rfl) (.lendRow rfl rfl (encI_len .i64) rfl) (.cons (.func _ _ _) (.ren rfl) (.nil))) rfl)<| ARun.nil _ _ _) ?_
      refine AWP.vc (s' := ⟨[(6,.ptr 3 0),(9,.ptr 4 0),(10,.own 7 1 0 p_146.1.length),(77,bW y_148)],[(3,⟨22,false,[.own 2 1 0 p_146.2.length]⟩),(4,⟨53,false,[.own 6 2 0 x_110.2.length]⟩),(7,⟨3,true,p_146.1.flatMap eW⟩),(2,⟨3,true,p_146.2.flatMap eW⟩),(6,⟨57,true,x_110.2.flatMap encR56⟩)]⟩) (VC.sub (.of rfl) (.of rfl)) ?_
      refine AWP.join' (S := fun p_150 : (List R56) => ⟨[(6,.ptr 3 0),(9,.ptr 4 0)],[(3,⟨22,false,[.own 2 1 0 p_146.2.length]⟩),(4,⟨53,false,[.own 6 2 0 p_150.length]⟩),(2,⟨3,true,p_146.2.flatMap eW⟩),(6,⟨57,true,p_150.flatMap encR56⟩)]⟩) h (fun p_150 h => ?_) (fun k_151 h => ?_)
      ·exact ⟨(p_146.2,p_150),VC.sub (.n _) (.of rfl),.inl ⟨rfl,h⟩⟩
      ·refine AWP.cond (.t rfl) (fun hc => ?_) (fun hc => ?_)
       ·have h := iteT hc h
        refine AWP.vc (VC.frz (d := 10) (t := 7) rfl rfl (encI_len .i64)) ?_
        obtain ⟨l6_149,hl6_149,h⟩ := bindS h
        refine AWP.region (.cons (.loadP (lt1 rfl) (.t rfl) one53 rfl rfl rfl)<| .cons (.move (lt1 rfl) (.t rfl))<| .cons (.buildO (offs := [(0,1),(1,1)]) (lt1 rfl) (.cons (.t rfl) (by first | exact ⟨rfl,rfl⟩ | rfl) (.cons (.const _ _ _) (by first | exact ⟨rfl,rfl⟩ | rfl) (.nil))) zero57 offs57 rfl)<| .cons (.buildSlice (t := 8) (out := ([(R56.mk p_146.1 (1 : Int))] : List R56).flatMap encR56) (lt1 rfl) (nm rfl) (.cons (.t rfl) (by first | exact ⟨rfl,rfl⟩ | rfl) (.nil)) Try.underlying53 zero57 el57 (by decide) (by decide) rfl (still_all encR56_still _))<| .cons (.app (enc := encR56) (lt1 rfl) (nm rfl) (.t rfl) (Src.own (.t rfl) rfl (lendAll encR56_len _) (flatMap_length encR56_len _) (one_all encR56_one _) (.inl rfl)) Try.underlying53 ⟨_,Try.underlying53,by intro k hk; cases hk⟩ el57 rfl encR56_len rfl rfl (by decide) hl6_149)<| .cons (.storeP (.t rfl) (.t rfl) sz53 rfl (lt1 rfl) rfl (by intro h; cases h) rfl)<| ARun.nil _ _ _) ?_
        exact endJ l6_149 h (VC.sub (.of rfl) (.of rfl))
       ·have h := iteF hc h
        refine AWP.skip ?_
        exact endJ x_110.2 h (VC.sub (.of rfl) (.of rfl))
     ·refine AWP.vc (s' := ⟨[(6,.ptr 3 0),(9,.ptr 4 0),(10,.own 7 1 0 e_27.length),(48,iW (e_27.length : Int)),(49,iW (0 : Int))],[(3,⟨22,false,[.own 2 1 0 x_110.1.length]⟩),(4,⟨53,false,[.own 6 2 0 x_110.2.length]⟩),(7,⟨3,true,e_27.flatMap eW⟩),(2,⟨3,true,x_110.1.flatMap eW⟩),(6,⟨57,true,x_110.2.flatMap encR56⟩)]⟩) (VC.sub (.of rfl) (.of rfl)) ?_
      refine AWP.loopM (S := fun x_134 : Int × (List Int) × (List Int) => ⟨[(6,.ptr 3 0),(9,.ptr 4 0),(10,.own 7 1 0 x_134.2.1.length),(48,iW (e_27.length : Int)),(49,iW x_134.1)],[(3,⟨22,false,[.own 2 1 0 x_134.2.2.length]⟩),(4,⟨53,false,[.own 6 2 0 x_110.2.length]⟩),(7,⟨3,true,x_134.2.1.flatMap eW⟩),(2,⟨3,true,x_134.2.2.flatMap eW⟩),(6,⟨57,true,x_110.2.flatMap encR56⟩)]⟩) (x := ((0 : Int),e_27,x_110.1)) (fun nx_135 x_134 h => ?_) h
      unfold m39_L5 at h
      refine AWP.seq ?_
      refine AWP.region (.cons (.lss (lt1 rfl) (.t rfl) (.t rfl))<| ARun.nil _ _ _) ?_
      refine AWP.vc (s' := ⟨[(6,.ptr 3 0),(9,.ptr 4 0),(10,.own 7 1 0 x_134.2.1.length),(48,iW (e_27.length : Int)),(49,iW x_134.1),(50,bW (decide (x_134.1 < (e_27.length : Int))))],[(3,⟨22,false,[.own 2 1 0 x_134.2.2.length]⟩),(4,⟨53,false,[.own 6 2 0 x_110.2.length]⟩),(7,⟨3,true,x_134.2.1.flatMap eW⟩),(2,⟨3,true,x_134.2.2.flatMap eW⟩),(6,⟨57,true,x_110.2.flatMap encR56⟩)]⟩) (VC.sub (.of rfl) (.of rfl)) ?_
      refine AWP.seq ?_
      refine AWP.cond (.t rfl) (fun hc => ?_) (fun hc => ?_)
      ·have h := iteT hc h
       refine AWP.skip ?_
       refine AWP.seq ?_
       refine AWP.block ?_
       refine AWP.seq ?_
       refine AWP.region (.cons (.move (lt1 rfl) (.t rfl))<| .cons (.assign (lt1 rfl) (.t rfl))<| ARun.nil _ _ _) ?_
       refine AWP.vc (s' := ⟨[(6,.ptr 3 0),(9,.ptr 4 0),(10,.own 7 1 0 x_134.2.1.length),(48,iW (e_27.length : Int)),(49,iW x_134.1),(11,iW x_134.1)],[(3,⟨22,false,[.own 2 1 0 x_134.2.2.length]⟩),(4,⟨53,false,[.own 6 2 0 x_110.2.length]⟩),(7,⟨3,true,x_134.2.1.flatMap eW⟩),(2,⟨3,true,x_134.2.2.flatMap eW⟩),(6,⟨57,true,x_110.2.flatMap encR56⟩)]⟩) (VC.sub (.of rfl) (.of rfl)) ?_
       refine AWP.seq ?_
       obtain ⟨y_136,hy_136,h⟩ := bindS h
       obtain ⟨y_137,hy_137,h⟩ := bindS h
       obtain ⟨t12_138,ht12_138,h⟩ := letS h
       refine AWP.draw (s' := ⟨[(6,.ptr 3 0),(9,.ptr 4 0),(10,.own 7 1 0 x_134.2.1.length),(11,iW x_134.1),(12,iW (if y_137 < y_136 then y_137 else y_136)),(48,iW (e_27.length : Int)),(49,iW x_134.1)],[(3,⟨22,false,[.own 2 1 0 x_134.2.2.length]⟩),(4,⟨53,false,[.own 6 2 0 x_110.2.length]⟩),(7,⟨3,true,x_134.2.1.flatMap eW⟩),(2,⟨3,true,x_134.2.2.flatMap eW⟩),(6,⟨57,true,x_110.2.flatMap encR56⟩)]⟩) mixed [⟨6,.ptr 3 0,none,[]⟩,⟨9,.ptr 4 0,none,[]⟩,⟨10,.own 7 1 0 x_134.2.1.length,none,[]⟩,⟨11,iW x_134.1,none,[]⟩,⟨48,iW (e_27.length : Int),none,[]⟩,⟨49,iW x_134.1,none,[]⟩,⟨52,.own 7 1 0 x_134.2.1.length,some 0,[]⟩,⟨53,iW x_134.1,some 1,[]⟩,⟨54,.ptr 7 (0 + (x_134.1).toNat * 1),some 2,[]⟩,⟨55,iW y_136,some 3,[]⟩,⟨56,.own 2 1 0 x_134.2.2.length,some 4,[]⟩,⟨57,iW x_134.1,some 5,[]⟩,⟨58,.ptr 2 (0 + (x_134.1).toNat * 1),some 6,[]⟩,⟨59,iW y_137,some 7,[]⟩,⟨60,iW (if y_137 < y_136 then y_137 else y_136),some 8,[]⟩,⟨12,iW (if y_137 < y_136 then y_137 else y_136),some 9,[]⟩] [⟨[2],0,0,some (52,.own 7 1 0 x_134.2.1.length),[]⟩,⟨[3],0,0,some (53,iW x_134.1),[]⟩,⟨[6,7],0,0,some (54,.ptr 7 (0 + (x_134.1).toNat * 1)),[]⟩,⟨[8],0,0,some (55,iW y_136),[]⟩,⟨[0],0,0,some (56,.own 2 1 0 x_134.2.2.length),[]⟩,⟨[3],0,0,some (57,iW x_134.1),[]⟩,⟨[10,11],0,0,some (58,.ptr 2 (0 + (x_134.1).toNat * 1)),[]⟩,⟨[12],0,0,some (59,iW y_137),[]⟩,⟨[9,13],0,0,some (60,iW (if y_137 < y_136 then y_137 else y_136)),[]⟩,⟨[14],0,0,some (12,iW (if y_137 < y_136 then y_137 else y_136)),[]⟩] [] [[(3,⟨22,false,[.own 2 1 0 x_134.2.2.length]⟩),(4,⟨53,false,[.own 6 2 0 x_110.2.length]⟩),(7,⟨3,true,x_134.2.1.flatMap eW⟩),(2,⟨3,true,x_134.2.2.flatMap eW⟩),(6,⟨57,true,x_110.2.flatMap encR56⟩)]] [[],[],[0,1],[0,1,2],[],[],[4,5],[4,5,6],[0,1,2,3,4,5,6,7],[0,1,2,3,4,5,6,7,8]] (by kernel_rfl) (by kernel_rfl) (BornL.ok (.o<| .o<| .o<| .o<| .o<| .o<| .b rfl rfl<| .b rfl rfl<| .b rfl rfl<| .b rfl rfl<| .b rfl rfl<| .b rfl rfl<| .b rfl rfl<| .b rfl rfl<| .b rfl rfl<| .b rfl rfl<| .n)) (BaseL.ok (.o rfl<| .o rfl<| .o rfl<| .o rfl<| .o rfl<| .o rfl<| .b<| .b<| .b<| .b<| .b<| .b<| .b<| .b<| .b<| .b<| .n)) rfl (by decide) (allLt rfl) (.read rfl (.c (.put (fun E hE => .move (lt1 rfl) (.tmp (hE.at (k := 0) rfl)))) .n)<| .pure rfl (fun H => .put (fun E hE => .move (lt1 rfl) (.tmp (hE.at (k := 0) rfl))))<| .read rfl (.c (.put (fun E hE => .idxOwn (lt1 rfl) (.tmp (hE.at (k := 0) rfl)) (.tmp (hE.at (k := 1) rfl)) Try.underlying22 sz3 rfl hy_136)) .n)<| .read rfl (.c (.put (fun E hE => .loadP (lt1 rfl) (.tmp (hE.at (k := 0) rfl)) one3 rfl (cell_at1 (encI_len .i64) hy_136) rfl)) .n)<| .read rfl (.c (.put (fun E hE => .loadP (lt1 rfl) (.tmp (hE.at (k := 0) rfl)) one22 rfl rfl rfl)) .n)<| .pure rfl (fun H => .put (fun E hE => .move (lt1 rfl) (.tmp (hE.at (k := 0) rfl))))<| .read rfl (.c (.put (fun E hE => .idxOwn (lt1 rfl) (.tmp (hE.at (k := 0) rfl)) (.tmp (hE.at (k := 1) rfl)) Try.underlying22 sz3 rfl hy_137)) .n)<| .read rfl (.c (.put (fun E hE => .loadP (lt1 rfl) (.tmp (hE.at (k := 0) rfl)) one3 rfl (cell_at1 (encI_len .i64) hy_137) rfl)) .n)<| .pure rfl (fun H => .put (fun E hE => .min2 (lt1 rfl) (.tmp (hE.at (k := 0) rfl)) (.tmp (hE.at (k := 1) rfl))))<| .pure rfl (fun H => .put (fun E hE => .assign (lt1 rfl) (.tmp (hE.at (k := 0) rfl))))<| .nil _) (fun E hE => .c (DInv.at hE (k := 0) rfl rfl rfl)<| .c (DInv.at hE (k := 1) rfl rfl rfl)<| .c (DInv.at hE (k := 2) rfl rfl rfl)<| .c (DInv.at hE (k := 3) rfl rfl rfl)<| .c (DInv.at hE (k := 15) rfl rfl rfl)<| .c (DInv.at hE (k := 4) rfl rfl rfl)<| .c (DInv.at hE (k := 5) rfl rfl rfl)<| .n _) rfl ?_
       refine AWP.vc (s' := ⟨[(6,.ptr 3 0),(9,.ptr 4 0),(10,.own 7 1 0 x_134.2.1.length),(48,iW (e_27.length : Int)),(49,iW x_134.1),(11,iW x_134.1),(12,iW t12_138)],[(3,⟨22,false,[.own 2 1 0 x_134.2.2.length]⟩),(4,⟨53,false,[.own 6 2 0 x_110.2.length]⟩),(7,⟨3,true,x_134.2.1.flatMap eW⟩),(2,⟨3,true,x_134.2.2.flatMap eW⟩),(6,⟨57,true,x_110.2.flatMap encR56⟩)]⟩) (by subst ht12_138; exact VC.sub (.of rfl) (.of rfl)) ?_
       refine AWP.seq ?_
       obtain ⟨y_139,hy_139,h⟩ := bindS h
       obtain ⟨y_140,hy_140,h⟩ := bindS h
       obtain ⟨l7_141,hl7_141,h⟩ := bindS h
       refine AWP.region (.cons (.move (lt1 rfl) (.t rfl))<| .cons (.move (lt1 rfl) (.t rfl))<| .cons (.idxOwn (lt1 rfl) (.t rfl) (.t rfl) Try.underlying22 sz3 rfl hy_139)<| .cons (.loadP (lt1 rfl) (.t rfl) one3 rfl (cell_at1 (encI_len .i64) hy_139) rfl)<| .cons (.move (lt1 rfl) (.t rfl))<| .cons (.sub (lt1 rfl) (.t rfl) (.t rfl))<| .cons (.idxOwn (lt1 rfl) (.t rfl) (.t rfl) Try.underlying22 sz3 rfl hy_140)<| .cons (.storeP (.t rfl) (.t rfl) sz3 rfl (lt_at1 (encI_len .i64) hy_140) rfl (fun _ => rfl) (set_at1 (encI_len .i64) hl7_141 rfl))<| ARun.nil _ _ _) ?_
       refine AWP.vc (s' := ⟨[(6,.ptr 3 0),(9,.ptr 4 0),(10,.own 7 1 0 l7_141.length),(48,iW (e_27.length : Int)),(49,iW x_134.1),(11,iW x_134.1),(12,iW t12_138)],[(3,⟨22,false,[.own 2 1 0 x_134.2.2.length]⟩),(4,⟨53,false,[.own 6 2 0 x_110.2.length]⟩),(7,⟨3,true,l7_141.flatMap eW⟩),(2,⟨3,true,x_134.2.2.flatMap eW⟩),(6,⟨57,true,x_110.2.flatMap encR56⟩)]⟩) (VC.sub (.c rfl<| .c rfl<| .c (lenC (Eq.symm (setLen hl7_141)) rfl)<| .c rfl<| .c rfl<| .c rfl<| .c rfl<| .n _) (.of rfl)) ?_
       obtain ⟨y_142,hy_142,h⟩ := bindS h
       obtain ⟨y_143,hy_143,h⟩ := bindS h
       obtain ⟨l2_144,hl2_144,h⟩ := bindS h
       refine AWP.region (.cons (.loadP (lt1 rfl) (.t rfl) one22 rfl rfl rfl)<| .cons (.move (lt1 rfl) (.t rfl))<| .cons (.idxOwn (lt1 rfl) (.t rfl) (.t rfl) Try.underlying22 sz3 rfl hy_142)<| .cons (.loadP (lt1 rfl) (.t rfl) one3 rfl (cell_at1 (encI_len .i64) hy_142) rfl)<| .cons (.move (lt1 rfl) (.t rfl))<| .cons (.sub (lt1 rfl) (.t rfl) (.t rfl))<| .cons (.idxOwn (lt1 rfl) (.t rfl) (.t rfl) Try.underlying22 sz3 rfl hy_143)<| .cons (.storeP (.t rfl) (.t rfl) sz3 rfl (lt_at1 (encI_len .i64) hy_143) rfl (fun _ => rfl) (set_at1 (encI_len .i64) hl2_144 rfl))<| .vc (VC.cellEq (t := 3) (i := 0) (v' := .own 2 1 0 l2_144.length) rfl rfl rfl (congrArg (fun n_ => AV.own 2 1 0 n_) (Eq.symm (setLen hl2_144))))<| ARun.nil _ _ _) ?_
       refine AWP.vc (s' := ⟨[(6,.ptr 3 0),(9,.ptr 4 0),(10,.own 7 1 0 l7_141.length),(48,iW (e_27.length : Int)),(49,iW x_134.1)],[(3,⟨22,false,[.own 2 1 0 l2_144.length]⟩),(4,⟨53,false,[.own 6 2 0 x_110.2.length]⟩),(7,⟨3,true,l7_141.flatMap eW⟩),(2,⟨3,true,l2_144.flatMap eW⟩),(6,⟨57,true,x_110.2.flatMap encR56⟩)]⟩) (VC.sub (.of rfl) (.of rfl)) ?_
       obtain ⟨t49_145,ht49_145,h⟩ := letS h
       refine AWP.region (.cons (.add (lt1 rfl) (.t rfl) (.const _ _ _))<| .cons (.move (lt1 rfl) (.t rfl))<| ARun.nil _ _ _) ?_
       exact endJ (t49_145,l7_141,l2_144) h (by subst ht49_145; exact VC.sub (.of rfl) (.of rfl))
      ·have h := iteF hc h
       refine AWP.exit ?_
       exact endJ (x_134.2.1,x_134.2.2) h (VC.sub (.of rfl) (.of rfl))
    ·refine AWPF.seq ?_
     obtain ⟨y_153,hy_153,h⟩ := bindS h
     refine AWPF.of fun d_ => AWP.region (.cons (.loadP (lt1 rfl) (.t rfl) one53 rfl rfl rfl)<| .vc (VC.frz (d := 83) (t := 6) rfl rfl encR56_len)<| .cons (.call0 (bw := false) (lt1 rfl) (c31 n p_152.2 hy_153) (.cons (.t rfl) (.ren rfl) (.nil)) rfl)<| .cons (.assign (lt1 rfl) (.t rfl))<| .cons (.assign (lt1 rfl) (.const _ _ _))<| ARun.nil _ _ _) ?_
     refine AWPF.ret ?_
     obtain rfl := Option.some.inj h
     refine ⟨.inl rfl,_,rfl,fun w0 Zs Zb T0 ι0 => (Res.vc (s' := ⟨[(4,rW false y_153 encR56),(5,iW (0 : Int))],[]⟩) (VC.sub (.of rfl) (.n _)) ?_)⟩
     refine Res.drop (H := []) rfl ?_
     exact Res.of rfl (.cons (.tmp rfl) (.cons (.tmp rfl) (.nil))) rfl rfl
   ·refine AWPF.vc (s' := ⟨[(1,rW false a1 encR56),(2,.ptr 1 0),(6,.ptr 3 0),(27,iW (y_1.1.length : Int)),(28,iW (0 : Int))],[(1,⟨32,false,[rW β1 a0.Lengths eW,rW β2 a0.Demand eW,iW a0.Stock,iW a0.Kerf]⟩),(3,⟨22,false,[.own 2 1 0 y_1.1.length]⟩),(2,⟨3,true,y_1.1.flatMap eW⟩)]⟩) (fun d_ => VC.sub (.of rfl) (.of rfl)) ?_
    refine AWPF.loopM (S := fun x_15 : Int × (List Int) => ⟨[(1,rW false a1 encR56),(2,.ptr 1 0),(6,.ptr 3 0),(27,iW (y_1.1.length : Int)),(28,iW x_15.1)],[(1,⟨32,false,[rW β1 a0.Lengths eW,rW β2 a0.Demand eW,iW a0.Stock,iW a0.Kerf]⟩),(3,⟨22,false,[.own 2 1 0 x_15.2.length]⟩),(2,⟨3,true,x_15.2.flatMap eW⟩)]⟩) (x := ((0 : Int),y_1.1)) (fun nx_16 x_15 r h => ?_) h
    unfold m39_L1 at h
    refine AWPF.seq ?_
    refine AWPF.of fun d_ => AWP.region (.cons (.lss (lt1 rfl) (.t rfl) (.t rfl))<| ARun.nil _ _ _) ?_
    refine AWPF.vc (s' := ⟨[(1,rW false a1 encR56),(2,.ptr 1 0),(6,.ptr 3 0),(27,iW (y_1.1.length : Int)),(28,iW x_15.1),(29,bW (decide (x_15.1 < (y_1.1.length : Int))))],[(1,⟨32,false,[rW β1 a0.Lengths eW,rW β2 a0.Demand eW,iW a0.Stock,iW a0.Kerf]⟩),(3,⟨22,false,[.own 2 1 0 x_15.2.length]⟩),(2,⟨3,true,x_15.2.flatMap eW⟩)]⟩) (fun d_ => VC.sub (.of rfl) (.of rfl)) ?_
    refine AWPF.seq ?_
    refine AWPF.cond (fun d_ => .tmp rfl) (fun hc => ?_) (fun hc => ?_)
    ·have h := iteT hc h
     refine AWPF.skip ?_
     refine AWPF.seq ?_
     refine AWPF.block ?_
     refine AWPF.seq ?_
     refine AWPF.of fun d_ => AWP.region (.cons (.move (lt1 rfl) (.t rfl))<| .cons (.assign (lt1 rfl) (.t rfl))<| ARun.nil _ _ _) ?_
     refine AWPF.vc (s' := ⟨[(1,rW false a1 encR56),(2,.ptr 1 0),(6,.ptr 3 0),(27,iW (y_1.1.length : Int)),(28,iW x_15.1),(8,iW x_15.1)],[(1,⟨32,false,[rW β1 a0.Lengths eW,rW β2 a0.Demand eW,iW a0.Stock,iW a0.Kerf]⟩),(3,⟨22,false,[.own 2 1 0 x_15.2.length]⟩),(2,⟨3,true,x_15.2.flatMap eW⟩)]⟩) (fun d_ => VC.sub (.of rfl) (.of rfl)) ?_
     obtain ⟨y_17,hy_17,h⟩ := bindS h
     obtain ⟨y_18,hy_18,h⟩ := bindS h
     obtain ⟨y_19,hy_19,h⟩ := bindS h
     obtain ⟨l2_20,hl2_20,h⟩ := bindS h
     refine AWPF.of fun d_ => AWP.draw (s' := ⟨[(1,rW false a1 encR56),(2,.ptr 1 0),(6,.ptr 3 0),(27,iW (y_1.1.length : Int)),(28,iW x_15.1)],[(1,⟨32,false,[rW β1 a0.Lengths eW,rW β2 a0.Demand eW,iW a0.Stock,iW a0.Kerf]⟩),(3,⟨22,false,[.own 2 1 0 l2_20.length]⟩),(2,⟨3,true,l2_20.flatMap eW⟩)]⟩) mixed [⟨1,rW false a1 encR56,none,[]⟩,⟨2,.ptr 1 0,none,[]⟩,⟨6,.ptr 3 0,none,[]⟩,⟨8,iW x_15.1,none,[]⟩,⟨27,iW (y_1.1.length : Int),none,[]⟩,⟨28,iW x_15.1,none,[]⟩,⟨31,.own 2 1 0 x_15.2.length,some 0,[]⟩,⟨32,iW x_15.1,some 1,[]⟩,⟨33,.ptr 2 (0 + (x_15.1).toNat * 1),some 2,[]⟩,⟨34,iW y_17,some 3,[]⟩,⟨35,.ptr 1 (0 + 1),some 4,[]⟩,⟨36,rW β2 a0.Demand eW,some 5,[]⟩,⟨37,iW x_15.1,some 6,[]⟩,⟨38,.rptr β2 [iW y_18],some 7,[]⟩,⟨39,iW y_18,some 8,[]⟩,⟨40,iW (IntKind.wrap .i64 (y_17 - y_18)),some 9,[]⟩,⟨41,.ptr 2 (0 + (x_15.1).toNat * 1),some 10,[]⟩] [⟨[2],0,0,some (31,.own 2 1 0 x_15.2.length),[]⟩,⟨[3],0,1,some (32,iW x_15.1),[]⟩,⟨[6,7],0,0,some (33,.ptr 2 (0 + (x_15.1).toNat * 1)),[]⟩,⟨[8],0,0,some (34,iW y_17),[]⟩,⟨[1],0,0,some (35,.ptr 1 (0 + 1)),[]⟩,⟨[10],0,0,some (36,rW β2 a0.Demand eW),[]⟩,⟨[3],0,1,some (37,iW x_15.1),[]⟩,⟨[11,12],0,1,some (38,.rptr β2 [iW y_18]),[]⟩,⟨[13],0,1,some (39,iW y_18),[]⟩,⟨[9,14],0,1,some (40,iW (IntKind.wrap .i64 (y_17 - y_18))),[]⟩,⟨[6,7],0,0,some (41,.ptr 2 (0 + (x_15.1).toNat * 1)),[]⟩,⟨[16,15],0,0,none,[]⟩] [11] [[(1,⟨32,false,[rW β1 a0.Lengths eW,rW β2 a0.Demand eW,iW a0.Stock,iW a0.Kerf]⟩),(3,⟨22,false,[.own 2 1 0 x_15.2.length]⟩),(2,⟨3,true,x_15.2.flatMap eW⟩)],[(1,⟨32,false,[rW β1 a0.Lengths eW,rW β2 a0.Demand eW,iW a0.Stock,iW a0.Kerf]⟩),(3,⟨22,false,[.own 2 1 0 l2_20.length]⟩),(2,⟨3,true,l2_20.flatMap eW⟩)]] [[],[],[0,1],[0,1,2],[],[4],[],[4,5,6],[4,5,6,7],[0,1,2,3,4,5,6,7,8],[0,1,2,3,4,5,6,7,8,9],[0,1,2,3,4,5,6,7,8,9,10]] (by kernel_rfl) (by kernel_rfl) (BornL.ok (.o<| .o<| .o<| .o<| .o<| .o<| .b rfl rfl<| .b rfl rfl<| .b rfl rfl<| .b rfl rfl<| .b rfl rfl<| .b rfl rfl<| .b rfl rfl<| .b rfl rfl<| .b rfl rfl<| .b rfl rfl<| .b rfl rfl<| .n)) (BaseL.ok (.o rfl<| .o rfl<| .o rfl<| .o rfl<| .o rfl<| .o rfl<| .b<| .b<| .b<| .b<| .b<| .b<| .b<| .b<| .b<| .b<| .b<| .n)) rfl (by decide) (allLt rfl) (.read rfl (.c (.put (fun E hE => .loadP (lt1 rfl) (.tmp (hE.at (k := 0) rfl)) one22 rfl rfl rfl)) (.n))<| .pure rfl (fun H => .put (fun E hE => .move (lt1 rfl) (.tmp (hE.at (k := 0) rfl))))<| .read rfl (.c (.put (fun E hE => .idxOwn (lt1 rfl) (.tmp (hE.at (k := 0) rfl)) (.tmp (hE.at (k := 1) rfl)) Try.underlying22 sz3 rfl hy_17)) (.n))<| .read rfl (.c (.put (fun E hE => .loadP (lt1 rfl) (.tmp (hE.at (k := 0) rfl)) one3 rfl (cell_at1 (encI_len .i64) hy_17) rfl)) (.n))<| .read rfl (.c (.put (fun E hE => .fieldP (lt1 rfl) (.tmp (hE.at (k := 0) rfl)) fld32_1)) (.n))<| .read rfl (.c (.put (fun E hE => .loadP (lt1 rfl) (.tmp (hE.at (k := 0) rfl)) one22 rfl rfl rfl)) (.n))<| .pure rfl (fun H => .put (fun E hE => .move (lt1 rfl) (.tmp (hE.at (k := 0) rfl))))<| .pure rfl (fun H => .put (fun E hE => .indexRd (enc := eW) (lt1 rfl) (.tmp (hE.at (k := 0) rfl)) (.tmp (hE.at (k := 1) rfl)) Try.underlying22 sz3 (encI_len .i64) rfl hy_18))<| .pure rfl (fun H => .put (fun E hE => .loadR (v := iW y_18) (lt1 rfl) (.tmp (hE.at (k := 0) rfl)) one3 rfl))<| .pure rfl (fun H => .put (fun E hE => .sub (lt1 rfl) (.tmp (hE.at (k := 0) rfl)) (.tmp (hE.at (k := 1) rfl))))<| .read rfl (.c (.put (fun E hE => .idxOwn (lt1 rfl) (.tmp (hE.at (k := 0) rfl)) (.tmp (hE.at (k := 1) rfl)) Try.underlying22 sz3 rfl hy_19)) (.n))<| .turn rfl rfl rfl rfl rfl (.store (fun E hE => .storeP (.tmp (hE.at (k := 0) rfl)) (.tmp (hE.at (k := 1) rfl)) sz3 rfl (lt_at1 (encI_len .i64) hy_19) rfl (fun _ => rfl) (set_at1 (encI_len .i64) hl2_20 rfl)) (congrArg (fun n_ : Nat => ([(1,⟨32,false,[rW β1 a0.Lengths eW,rW β2 a0.Demand eW,iW a0.Stock,iW a0.Kerf]⟩),(3,⟨22,false,[.own 2 1 0 n_]⟩),(2,⟨3,true,l2_20.flatMap eW⟩)] : List (Nat × Blk))) (setLen hl2_20)))<| .nil _) (fun E hE => .c (DInv.at hE (k := 0) rfl rfl rfl)<| .c (DInv.at hE (k := 1) rfl rfl rfl)<| .c (DInv.at hE (k := 2) rfl rfl rfl)<| .c (DInv.at hE (k := 4) rfl rfl rfl)<| .c (DInv.at hE (k := 5) rfl rfl rfl)<| .n _) rfl ?_
     refine AWPF.vc (s' := ⟨[(1,rW false a1 encR56),(2,.ptr 1 0),(6,.ptr 3 0),(27,iW (y_1.1.length : Int)),(28,iW x_15.1)],[(1,⟨32,false,[rW β1 a0.Lengths eW,rW β2 a0.Demand eW,iW a0.Stock,iW a0.Kerf]⟩),(3,⟨22,false,[.own 2 1 0 l2_20.length]⟩),(2,⟨3,true,l2_20.flatMap eW⟩)]⟩) (fun d_ => VC.sub (.of rfl) (.of rfl)) ?_
     obtain ⟨t28_21,ht28_21,h⟩ := letS h
     refine AWPF.of fun d_ => AWP.region (.cons (.add (lt1 rfl) (.t rfl) (.const _ _ _))<| .cons (.move (lt1 rfl) (.t rfl))<| ARun.nil _ _ _) ?_
     exact endJF (t28_21,l2_20) h (fun d_ => by subst ht28_21; exact VC.sub (.of rfl) (.of rfl))
    ·have h := iteF hc h
     refine AWPF.exit ?_
     exact endJF x_15.2 h (fun d_ => VC.sub (.of rfl) (.of rfl))
end Go.AB
