import Derived.Test.YtnmglighdhaccaaProg
import Derived.Test.YtnmglighdhaccaaF8c
import Derived.KernelRfl
set_option linter.unusedVariables false
set_option maxRecDepth 20000
namespace Go.AB
open Go Go.Proofs
theorem c9 {β1 : Bool} {β2 : Bool} (n : Nat) (a0 : R23) (a1 : (List R56)) {r : Bool} (h : m9 n a0 a1 = some r) : Spec Try.prog 9 [] [.agg [rW β1 a0.Lengths eW,rW β2 a0.Demand eW,iW a0.Stock,iW a0.Kerf],rW false a1 encR56] [] (bW r) [] := by
 refine Spec.of (fn := Try.f9) Try.func9 Try.ntmps9 rfl rfl (le1 rfl) (fun w0 Zs Zb T0 ι0 => ?_)
 unfold m9 at h
 refine AWP.seq ?_
 refine AWP.region (.cons (.box (t := 1) (n := 4) (lt1 rfl) (nm rfl) (.t rfl) (by first | exact ⟨rfl,rfl⟩ | rfl) rfl)<| .cons (.assign (lt1 rfl) (.const _ _ _))<| ARun.nil _ _ _) ?_
 refine AWP.vc (s' := ⟨[(1,rW false a1 encR56),(2,.ptr 1 0)],[(1,⟨24,false,[rW β1 a0.Lengths eW,rW β2 a0.Demand eW,iW a0.Stock,iW a0.Kerf]⟩)]⟩) (VC.sub (.of rfl) (.of rfl)) ?_
 refine AWP.seq ?_
 refine AWP.seq ?_
 obtain ⟨y_1,hy_1,h⟩ := bindS h
 obtain ⟨y_2,hy_2,h⟩ := bindS h
 obtain ⟨y_3,hy_3,h⟩ := bindS h
 refine AWP.region (.cons (.call0 (bw := false) (lt1 rfl) (c10 n hy_1) (.nil) rfl)<| .cons (.not (lt1 rfl) (.t rfl))<| .cons (.move (lt1 rfl) (.t rfl))<| .guard (j := 2) (dj := 17) rfl (lt1 rfl) rfl (lt1 rfl) (fun hg => .loadPA (lt1 rfl) (.t rfl) agg24 rfl rfl rfl rfl)<| .guard (j := 2) (dj := 17) rfl (lt1 rfl) rfl (lt1 rfl) (fun hg => .call0 (bw := false) (lt1 rfl) (c11 (β1 := β1) (β2 := β2) n (R23.mk a0.Lengths a0.Demand a0.Stock a0.Kerf) (gdB hy_2 hg)) (.cons (.gd hg (.t rfl)) (.ren rfl) (.nil)) rfl)<| .guard (j := 2) (dj := 17) rfl (lt1 rfl) rfl (lt1 rfl) (fun hg => .not (lt1 rfl) (.gd hg (.t rfl)))<| .cons (.pickOr (lt1 rfl) (.t rfl) (.const _ _ _) (.t rfl))<| .cons (.move (lt1 rfl) (.t rfl))<| .guard (j := 7) (dj := 22) rfl (lt1 rfl) rfl (lt1 rfl) (fun hg => .move (lt1 rfl) (.t rfl))<| .guard (j := 7) (dj := 22) rfl (lt1 rfl) rfl (lt1 rfl) (fun hg => .call0 (bw := false) (lt1 rfl) (c29 (β1 := false) n a1 (gdB hy_3 hg)) (.cons (.gd hg (.t rfl)) (.ren rfl) (.nil)) rfl)<| .guard (j := 7) (dj := 22) rfl (lt1 rfl) rfl (lt1 rfl) (fun hg => .not (lt1 rfl) (.gd hg (.t rfl)))<| .cons (.pickOr (lt1 rfl) (.t rfl) (.const _ _ _) (.t rfl))<| ARun.nil _ _ _) ?_
 refine AWP.vc (s' := ⟨[(1,rW false a1 encR56),(2,.ptr 1 0),(26,bW (((!y_1) || (!y_2)) || (!y_3)))],[(1,⟨24,false,[rW β1 a0.Lengths eW,rW β2 a0.Demand eW,iW a0.Stock,iW a0.Kerf]⟩)]⟩) (VC.sub (.of rfl) (.of rfl)) ?_
 refine AWP.cond (.t rfl) (fun hc => ?_) (fun hc => ?_)
 ·have h := iteT hc h
  refine AWP.seq ?_
  obtain ⟨y_4,hy_4,h⟩ := bindS h
  refine AWP.region (.cons (.call0 (bw := false) (lt1 rfl) (c10 n hy_4) (.nil) rfl)<| .cons (.assign (lt1 rfl) (.t rfl))<| ARun.nil _ _ _) ?_
  refine AWP.ret ?_
  obtain rfl := Option.some.inj h
  refine retJ (Res.vc (s' := ⟨[(4,bW y_4)],[]⟩) (VC.sub (.of rfl) (.n _)) ?_)
  refine Res.drop (H := []) rfl ?_
  exact Res.of rfl (.cons (.tmp rfl) (.nil)) rfl rfl
 ·have h := iteF hc h
  refine AWP.skip ?_
  refine AWP.seq ?_
  obtain ⟨y_5,hy_5,h⟩ := bindS h
  refine AWP.draw (s' := ⟨[(2,.ptr 1 0),(5,.ptr 2 0),(6,rW false y_5 encR56)],[(2,⟨32,false,[rW β1 a0.Lengths eW,rW β2 a0.Demand eW,iW a0.Stock,iW a0.Kerf]⟩),(1,⟨24,false,[rW β1 a0.Lengths eW,rW β2 a0.Demand eW,iW a0.Stock,iW a0.Kerf]⟩)]⟩) mixed [⟨1,rW false a1 encR56,none,[]⟩,⟨2,.ptr 1 0,none,[]⟩,⟨26,bW (((!y_1) || (!y_2)) || (!y_3)),none,[]⟩,⟨28,.agg [rW β1 a0.Lengths eW,rW β2 a0.Demand eW,iW a0.Stock,iW a0.Kerf],some 0,[]⟩,⟨29,rW false a1 encR56,some 1,[]⟩,⟨30,rW false y_5 encR56,some 2,[]⟩,⟨5,.ptr 2 0,some 3,[]⟩,⟨6,rW false y_5 encR56,some 5,[]⟩] [⟨[1],0,1,some (28,.agg [rW β1 a0.Lengths eW,rW β2 a0.Demand eW,iW a0.Stock,iW a0.Kerf]),[]⟩,⟨[0],0,2,some (29,rW false a1 encR56),[]⟩,⟨[4],0,2,some (30,rW false y_5 encR56),[]⟩,⟨[],0,0,some (5,.ptr 2 0),[2]⟩,⟨[6,3],1,1,none,[]⟩,⟨[5],0,2,some (6,rW false y_5 encR56),[]⟩] [3,4] [[(1,⟨24,false,[rW β1 a0.Lengths eW,rW β2 a0.Demand eW,iW a0.Stock,iW a0.Kerf]⟩)],[(2,⟨32,false,[.sc (.slice none 0 0),.sc (.slice none 0 0),iW (0 : Int),iW (0 : Int)]⟩),(1,⟨24,false,[rW β1 a0.Lengths eW,rW β2 a0.Demand eW,iW a0.Stock,iW a0.Kerf]⟩)],[(2,⟨32,false,[rW β1 a0.Lengths eW,rW β2 a0.Demand eW,iW a0.Stock,iW a0.Kerf]⟩),(1,⟨24,false,[rW β1 a0.Lengths eW,rW β2 a0.Demand eW,iW a0.Stock,iW a0.Kerf]⟩)]] [[],[],[1],[],[0,1,2,3],[0,1,2,3,4]] (by kernel_rfl) (by kernel_rfl) (BornL.ok (.o<| .o<| .o<| .b rfl rfl<| .b rfl rfl<| .b rfl rfl<| .b rfl rfl<| .b rfl rfl<| .n)) (BaseL.ok (.o rfl<| .o rfl<| .o rfl<| .b<| .b<| .b<| .b<| .b<| .n)) rfl (by decide) (allLt rfl) (.read rfl (.c (.put (fun E hE => .loadPA (lt1 rfl) (.tmp (hE.at (k := 0) rfl)) agg24 rfl rfl rfl rfl)) (.c (.put (fun E hE => .loadPA (lt1 rfl) (.tmp (hE.at (k := 0) rfl)) agg24 rfl rfl rfl rfl)) (.n)))<| .pure rfl (fun H => .put (fun E hE => .move (lt1 rfl) (.tmp (hE.at (k := 0) rfl))))<| .pure rfl (fun H => .put (fun E hE => .call0 (bw := false) (lt1 rfl) (c32 n a1 hy_5) (.cons (.tmp (hE.at (k := 0) rfl)) (.ren rfl) (.nil)) rfl))<| .turn rfl rfl rfl rfl rfl (.new (fun E hE => .alloc (t := 2) (k := ⟨32,false,[.sc (.slice none 0 0),.sc (.slice none 0 0),iW (0 : Int),iW (0 : Int)]⟩) (lt1 rfl) (nm rfl) zero32 rfl rfl) rfl)<| .turn rfl rfl rfl rfl rfl (.store (fun E hE => .storePA (.tmp (hE.at (k := 0) rfl)) (.tmp (hE.at (k := 1) rfl)) sz32 rfl rfl (le1 rfl) (one_lit rfl) (by intro h; cases h) rfl) rfl)<| .pure rfl (fun H => .put (fun E hE => .assign (lt1 rfl) (.tmp (hE.at (k := 0) rfl))))<| .nil _) (fun E hE => .c (DInv.at hE (k := 1) rfl rfl rfl)<| .c (DInv.at hE (k := 6) rfl rfl rfl)<| .c (DInv.at hE (k := 7) rfl rfl rfl)<| .n _) rfl ?_
  refine AWP.vc (s' := ⟨[(2,.ptr 1 0),(5,.ptr 2 0),(6,rW false y_5 encR56)],[(2,⟨32,false,[rW β1 a0.Lengths eW,rW β2 a0.Demand eW,iW a0.Stock,iW a0.Kerf]⟩),(1,⟨24,false,[rW β1 a0.Lengths eW,rW β2 a0.Demand eW,iW a0.Stock,iW a0.Kerf]⟩)]⟩) (VC.sub (.of rfl) (.of rfl)) ?_
  refine AWP.seq ?_
  obtain ⟨y_6,hy_6,h⟩ := bindS h
  refine AWP.region (.cons (.loadPA (lt1 rfl) (.t rfl) agg32 rfl rfl rfl rfl)<| .cons (.move (lt1 rfl) (.t rfl))<| .cons (.call0 (bw := false) (lt1 rfl) (c39 (β1 := β1) (β2 := β2) n (R23.mk a0.Lengths a0.Demand a0.Stock a0.Kerf) y_5 hy_6) (.cons (.t rfl) (.ren rfl) (.cons (.t rfl) (.ren rfl) (.nil))) rfl)<| .cons (.move (lt1 rfl) (.t rfl))<| .cons (.extract (lt1 rfl) (.t rfl) rfl)<| .cons (.extract (lt1 rfl) (.t rfl) rfl)<| .cons (.assign (lt1 rfl) (.t rfl))<| .cons (.assign (lt1 rfl) (.t rfl))<| ARun.nil _ _ _) ?_
  refine AWP.vc (s' := ⟨[(2,.ptr 1 0),(5,.ptr 2 0),(6,rW false y_5 encR56),(7,rW false y_6.1 encR56),(8,iW y_6.2)],[(2,⟨32,false,[rW β1 a0.Lengths eW,rW β2 a0.Demand eW,iW a0.Stock,iW a0.Kerf]⟩),(1,⟨24,false,[rW β1 a0.Lengths eW,rW β2 a0.Demand eW,iW a0.Stock,iW a0.Kerf]⟩)]⟩) (VC.sub (.of rfl) (.of rfl)) ?_
  refine AWP.seq ?_
  refine AWP.seq ?_
  refine AWP.region (.cons (.move (lt1 rfl) (.t rfl))<| .cons (.neq (lt1 rfl) (.t rfl) (.const _ _ _))<| ARun.nil _ _ _) ?_
  refine AWP.vc (s' := ⟨[(2,.ptr 1 0),(5,.ptr 2 0),(6,rW false y_5 encR56),(7,rW false y_6.1 encR56),(38,bW (!decide (y_6.2 = (0 : Int))))],[(2,⟨32,false,[rW β1 a0.Lengths eW,rW β2 a0.Demand eW,iW a0.Stock,iW a0.Kerf]⟩),(1,⟨24,false,[rW β1 a0.Lengths eW,rW β2 a0.Demand eW,iW a0.Stock,iW a0.Kerf]⟩)]⟩) (VC.sub (.of rfl) (.of rfl)) ?_
  refine AWP.cond (.t rfl) (fun hc => ?_) (fun hc => ?_)
  ·have h := iteT hc h
   refine AWP.seq ?_
   obtain ⟨y_7,hy_7,h⟩ := bindS h
   refine AWP.region (.cons (.move (lt1 rfl) (.t rfl))<| .cons (.lenRd (lt1 rfl) (.t rfl) Try.underlying53)<| .cons (.eql (lt1 rfl) (.t rfl) (.const _ _ _))<| .cons (.move (lt1 rfl) (.t rfl))<| .guard (j := 3) (dj := 42) rfl (lt1 rfl) rfl (lt1 rfl) (fun hg => .loadPA (lt1 rfl) (.t rfl) agg32 rfl rfl rfl rfl)<| .guard (j := 3) (dj := 42) rfl (lt1 rfl) rfl (lt1 rfl) (fun hg => .move (lt1 rfl) (.t rfl))<| .guard (j := 3) (dj := 42) rfl (lt1 rfl) rfl (lt1 rfl) (fun hg => .call0 (bw := false) (lt1 rfl) (c41 (β1 := β1) (β2 := β2) (β3 := false) n (R23.mk a0.Lengths a0.Demand a0.Stock a0.Kerf) y_5 (gdB hy_7 hg)) (.cons (.gd hg (.t rfl)) (.ren rfl) (.cons (.gd hg (.t rfl)) (.ren rfl) (.nil))) rfl)<| .guard (j := 3) (dj := 42) rfl (lt1 rfl) rfl (lt1 rfl) (fun hg => .not (lt1 rfl) (.gd hg (.t rfl)))<| .cons (.pickAnd (lt1 rfl) (.t rfl) (.t rfl) (.const _ _ _))<| .cons (.assign (lt1 rfl) (.t rfl))<| ARun.nil _ _ _) ?_
   refine AWP.ret ?_
   obtain rfl := Option.some.inj h
   refine retJ (Res.vc (s' := ⟨[(4,bW ((decide ((y_6.1.length : Int) = (0 : Int))) && (!y_7)))],[]⟩) (VC.sub (.of rfl) (.n _)) ?_)
   refine Res.drop (H := []) rfl ?_
   exact Res.of rfl (.cons (.tmp rfl) (.nil)) rfl rfl
  ·have h := iteF hc h
   refine AWP.skip ?_
   refine AWP.seq ?_
   obtain ⟨y_8,hy_8,h⟩ := bindS h
   refine AWP.region (.cons (.loadPA (lt1 rfl) (.t rfl) agg32 rfl rfl rfl rfl)<| .cons (.move (lt1 rfl) (.t rfl))<| .cons (.call0 (bw := false) (lt1 rfl) (c33 (β1 := β1) (β2 := β2) (β3 := false) n (R23.mk a0.Lengths a0.Demand a0.Stock a0.Kerf) y_6.1 hy_8) (.cons (.t rfl) (.ren rfl) (.cons (.t rfl) (.ren rfl) (.nil))) rfl)<| .cons (.move (lt1 rfl) (.t rfl))<| .cons (.extract (lt1 rfl) (.t rfl) rfl)<| .cons (.extract (lt1 rfl) (.t rfl) rfl)<| .cons (.assign (lt1 rfl) (.t rfl))<| .cons (.assign (lt1 rfl) (.t rfl))<| ARun.nil _ _ _) ?_
   refine AWP.vc (s' := ⟨[(2,.ptr 1 0),(5,.ptr 2 0),(6,rW false y_5 encR56),(7,rW false y_6.1 encR56),(9,rW false y_8.1 eW),(10,iW y_8.2)],[(2,⟨32,false,[rW β1 a0.Lengths eW,rW β2 a0.Demand eW,iW a0.Stock,iW a0.Kerf]⟩),(1,⟨24,false,[rW β1 a0.Lengths eW,rW β2 a0.Demand eW,iW a0.Stock,iW a0.Kerf]⟩)]⟩) (VC.sub (.of rfl) (.of rfl)) ?_
   refine AWP.seq ?_
   obtain ⟨y_9,hy_9,h⟩ := bindS h
   refine AWP.region (.cons (.loadPA (lt1 rfl) (.t rfl) agg32 rfl rfl rfl rfl)<| .cons (.call0 (bw := false) (lt1 rfl) (c22 (β1 := β1) (β2 := β2) n (R23.mk a0.Lengths a0.Demand a0.Stock a0.Kerf) hy_9) (.cons (.t rfl) (.ren rfl) (.nil)) rfl)<| .cons (.move (lt1 rfl) (.t rfl))<| .cons (.extract (lt1 rfl) (.t rfl) rfl)<| .cons (.extract (lt1 rfl) (.t rfl) rfl)<| .cons (.assign (lt1 rfl) (.t rfl))<| .cons (.assign (lt1 rfl) (.t rfl))<| ARun.nil _ _ _) ?_
   refine AWP.vc (s' := ⟨[(2,.ptr 1 0),(5,.ptr 2 0),(6,rW false y_5 encR56),(7,rW false y_6.1 encR56),(9,rW false y_8.1 eW),(10,iW y_8.2),(11,iW y_9.1),(12,iW y_9.2)],[(2,⟨32,false,[rW β1 a0.Lengths eW,rW β2 a0.Demand eW,iW a0.Stock,iW a0.Kerf]⟩),(1,⟨24,false,[rW β1 a0.Lengths eW,rW β2 a0.Demand eW,iW a0.Stock,iW a0.Kerf]⟩)]⟩) (VC.sub (.of rfl) (.of rfl)) ?_
   refine AWP.seq ?_
   obtain ⟨y_10,hy_10,h⟩ := bindS h
   refine AWP.region (.cons (.loadPA (lt1 rfl) (.t rfl) agg32 rfl rfl rfl rfl)<| .cons (.move (lt1 rfl) (.t rfl))<| .cons (.call0 (bw := false) (lt1 rfl) (c39 (β1 := β1) (β2 := β2) n (R23.mk a0.Lengths a0.Demand a0.Stock a0.Kerf) y_6.1 hy_10) (.cons (.t rfl) (.ren rfl) (.cons (.t rfl) (.ren rfl) (.nil))) rfl)<| .cons (.move (lt1 rfl) (.t rfl))<| .cons (.extract (lt1 rfl) (.t rfl) rfl)<| .cons (.extract (lt1 rfl) (.t rfl) rfl)<| .cons (.assign (lt1 rfl) (.t rfl))<| .cons (.assign (lt1 rfl) (.t rfl))<| ARun.nil _ _ _) ?_
   refine AWP.vc (s' := ⟨[(2,.ptr 1 0),(5,.ptr 2 0),(6,rW false y_5 encR56),(7,rW false y_6.1 encR56),(9,rW false y_8.1 eW),(10,iW y_8.2),(11,iW y_9.1),(12,iW y_9.2),(13,rW false y_10.1 encR56),(14,iW y_10.2)],[(2,⟨32,false,[rW β1 a0.Lengths eW,rW β2 a0.Demand eW,iW a0.Stock,iW a0.Kerf]⟩),(1,⟨24,false,[rW β1 a0.Lengths eW,rW β2 a0.Demand eW,iW a0.Stock,iW a0.Kerf]⟩)]⟩) (VC.sub (.of rfl) (.of rfl)) ?_
   refine AWP.seq ?_
   obtain ⟨y_11,hy_11,h⟩ := bindS h
   obtain ⟨y_12,hy_12,h⟩ := bindS h
   obtain ⟨y_13,hy_13,h⟩ := bindS h
   obtain ⟨y_14,hy_14,h⟩ := bindS h
   obtain ⟨y_15,hy_15,h⟩ := bindS h
   obtain ⟨y_16,hy_16,h⟩ := bindS h
   obtain ⟨y_17,hy_17,h⟩ := bindS h
   obtain ⟨y_18,hy_18,h⟩ := bindS h
   obtain ⟨t4_19,ht4_19,h⟩ := letS h
   refine AWP.region (.cons (.move (lt1 rfl) (.t rfl))<| .cons (.eql (lt1 rfl) (.t rfl) (.const _ _ _))<| .cons (.move (lt1 rfl) (.t rfl))<| .guard (j := 2) (dj := 67) rfl (lt1 rfl) rfl (lt1 rfl) (fun hg => .move (lt1 rfl) (.t rfl))<| .guard (j := 2) (dj := 67) rfl (lt1 rfl) rfl (lt1 rfl) (fun hg => .eql (lt1 rfl) (.gd hg (.t rfl)) (.const _ _ _))<| .cons (.pickAnd (lt1 rfl) (.t rfl) (.t rfl) (.const _ _ _))<| .cons (.move (lt1 rfl) (.t rfl))<| .guard (j := 6) (dj := 71) rfl (lt1 rfl) rfl (lt1 rfl) (fun hg => .move (lt1 rfl) (.t rfl))<| .guard (j := 6) (dj := 71) rfl (lt1 rfl) rfl (lt1 rfl) (fun hg => .eql (lt1 rfl) (.gd hg (.t rfl)) (.const _ _ _))<| .cons (.pickAnd (lt1 rfl) (.t rfl) (.t rfl) (.const _ _ _))<| .cons (.move (lt1 rfl) (.t rfl))<| .guard (j := 10) (dj := 75) rfl (lt1 rfl) rfl (lt1 rfl) (fun hg => .move (lt1 rfl) (.t rfl))<| .guard (j := 10) (dj := 75) rfl (lt1 rfl) rfl (lt1 rfl) (fun hg => .fieldP (lt1 rfl) (.t rfl) fld24_1)<| .guard (j := 10) (dj := 75) rfl (lt1 rfl) rfl (lt1 rfl) (fun hg => .loadP (lt1 rfl) (.gd hg (.t rfl)) one22 rfl rfl rfl)<| .guard (j := 10) (dj := 75) rfl (lt1 rfl) rfl (lt1 rfl) (fun hg => .call0 (bw := false) (lt1 rfl) (c34 (β1 := false) (β2 := β2) n y_8.1 a0.Demand (gdB hy_11 hg)) (.cons (.gd hg (.t rfl)) (.ren rfl) (.cons (.gd hg (.t rfl)) (.ren rfl) (.nil))) rfl)<| .cons (.pickAnd (lt1 rfl) (.t rfl) (.t rfl) (.const _ _ _))<| .cons (.move (lt1 rfl) (.t rfl))<| .guard (j := 16) (dj := 81) rfl (lt1 rfl) rfl (lt1 rfl) (fun hg => .move (lt1 rfl) (.t rfl))<| .guard (j := 16) (dj := 81) rfl (lt1 rfl) rfl (lt1 rfl) (fun hg => .call0 (bw := false) (lt1 rfl) (c35 (β1 := false) n y_6.1 (gdB hy_12 hg)) (.cons (.gd hg (.t rfl)) (.ren rfl) (.nil)) rfl)<| .guard (j := 16) (dj := 81) rfl (lt1 rfl) rfl (lt1 rfl) (fun hg => .move (lt1 rfl) (.t rfl))<| .guard (j := 16) (dj := 81) rfl (lt1 rfl) rfl (lt1 rfl) (fun hg => .call0 (bw := false) (lt1 rfl) (c35 (β1 := false) n y_5 (gdB hy_13 hg)) (.cons (.gd hg (.t rfl)) (.ren rfl) (.nil)) rfl)<| .guard (j := 16) (dj := 81) rfl (lt1 rfl) rfl (lt1 rfl) (fun hg => .leq (lt1 rfl) (.gd hg (.t rfl)) (.gd hg (.t rfl)))<| .cons (.pickAnd (lt1 rfl) (.t rfl) (.t rfl) (.const _ _ _))<| .cons (.move (lt1 rfl) (.t rfl))<| .guard (j := 23) (dj := 88) rfl (lt1 rfl) rfl (lt1 rfl) (fun hg => .move (lt1 rfl) (.t rfl))<| .guard (j := 23) (dj := 88) rfl (lt1 rfl) rfl (lt1 rfl) (fun hg => .move (lt1 rfl) (.t rfl))<| .guard (j := 23) (dj := 88) rfl (lt1 rfl) rfl (lt1 rfl) (fun hg => .call0 (bw := false) (lt1 rfl) (c35 (β1 := false) n y_6.1 (gdB hy_14 hg)) (.cons (.gd hg (.t rfl)) (.ren rfl) (.nil)) rfl)<| .guard (j := 23) (dj := 88) rfl (lt1 rfl) rfl (lt1 rfl) (fun hg => .leq (lt1 rfl) (.gd hg (.t rfl)) (.gd hg (.t rfl)))<| .cons (.pickAnd (lt1 rfl) (.t rfl) (.t rfl) (.const _ _ _))<| .cons (.move (lt1 rfl) (.t rfl))<| .guard (j := 29) (dj := 94) rfl (lt1 rfl) rfl (lt1 rfl) (fun hg => .loadPA (lt1 rfl) (.t rfl) agg32 rfl rfl rfl rfl)<| .guard (j := 29) (dj := 94) rfl (lt1 rfl) rfl (lt1 rfl) (fun hg => .move (lt1 rfl) (.t rfl))<| .guard (j := 29) (dj := 94) rfl (lt1 rfl) rfl (lt1 rfl) (fun hg => .call0 (bw := false) (lt1 rfl) (c41 (β1 := β1) (β2 := β2) (β3 := false) n (R23.mk a0.Lengths a0.Demand a0.Stock a0.Kerf) y_6.1 (gdB hy_15 hg)) (.cons (.gd hg (.t rfl)) (.ren rfl) (.cons (.gd hg (.t rfl)) (.ren rfl) (.nil))) rfl)<| .cons (.pickAnd (lt1 rfl) (.t rfl) (.t rfl) (.const _ _ _))<| .cons (.move (lt1 rfl) (.t rfl))<| .guard (j := 34) (dj := 99) rfl (lt1 rfl) rfl (lt1 rfl) (fun hg => .move (lt1 rfl) (.t rfl))<| .guard (j := 34) (dj := 99) rfl (lt1 rfl) rfl (lt1 rfl) (fun hg => .call0 (bw := false) (lt1 rfl) (c37 n y_10.1 (gdB hy_16 hg)) (.cons (.gd hg (.t rfl)) (.ren rfl) (.nil)) rfl)<| .guard (j := 34) (dj := 99) rfl (lt1 rfl) rfl (lt1 rfl) (fun hg => .move (lt1 rfl) (.t rfl))<| .guard (j := 34) (dj := 99) rfl (lt1 rfl) rfl (lt1 rfl) (fun hg => .call0 (bw := false) (lt1 rfl) (c37 n y_6.1 (gdB hy_17 hg)) (.cons (.gd hg (.t rfl)) (.ren rfl) (.nil)) rfl)<| .guard (j := 34) (dj := 99) rfl (lt1 rfl) rfl (lt1 rfl) (fun hg => .call0 (bw := false) (lt1 rfl) (c36 (β1 := false) (β2 := false) n y_16 y_17 (gdB hy_18 hg)) (.cons (.gd hg (.t rfl)) (.ren rfl) (.cons (.gd hg (.t rfl)) (.ren rfl) (.nil))) rfl)<| .cons (.pickAnd (lt1 rfl) (.t rfl) (.t rfl) (.const _ _ _))<| .cons (.assign (lt1 rfl) (.t rfl))<| ARun.nil _ _ _) ?_
   refine AWP.ret ?_
   obtain rfl := Option.some.inj h
   refine retJ (Res.vc (s' := ⟨[(4,bW t4_19)],[]⟩) (by subst ht4_19; exact VC.sub (.of rfl) (.n _)) ?_)
   refine Res.drop (H := []) rfl ?_
   exact Res.of rfl (.cons (.tmp rfl) (.nil)) rfl rfl
end Go.AB
