import Derived.Test.YtnmglighdhaccaaProg
import Derived.Test.YtnmglighdhaccaaD
import Derived.KernelRfl
set_option linter.unusedVariables false
set_option maxRecDepth 20000
namespace Go.AB
open Go Go.Proofs
theorem c21 {β1 : Bool} {β2 : Bool} (n : Nat) (a0 : R23) {r : Bool} (h : m21 n a0 = some r) : Spec Try.prog 21 [] [.agg [rW β1 a0.Lengths eW,rW β2 a0.Demand eW,iW a0.Stock,iW a0.Kerf]] [] (bW r) [] := by
 refine Spec.of (fn := Try.f21) Try.func21 Try.ntmps21 rfl rfl (le1 rfl) (fun w0 Zs Zb T0 ι0 => ?_)
 unfold m21 at h
 refine AWP.seq ?_
 refine AWP.region (.cons (.box (t := 1) (n := 4) (lt1 rfl) (nm rfl) (.t rfl) (by first | exact ⟨rfl,rfl⟩ | rfl) rfl)<| .cons (.assign (lt1 rfl) (.const _ _ _))<| ARun.nil _ _ _) ?_
 refine AWP.vc (s' := ⟨[(1,.ptr 1 0)],[(1,⟨32,false,[rW β1 a0.Lengths eW,rW β2 a0.Demand eW,iW a0.Stock,iW a0.Kerf]⟩)]⟩) (VC.sub (.of rfl) (.of rfl)) ?_
 refine AWP.seq ?_
 refine AWP.seq ?_
 obtain ⟨t43_1,ht43_1,h⟩ := letS h
 refine AWP.region (.cons (.fieldP (lt1 rfl) (.t rfl) fld32_0)<| .cons (.loadP (lt1 rfl) (.t rfl) one22 rfl rfl rfl)<| .cons (.lenRd (lt1 rfl) (.t rfl) Try.underlying22)<| .cons (.lss (lt1 rfl) (.t rfl) (.const _ _ _))<| .cons (.move (lt1 rfl) (.t rfl))<| .guard (j := 4) (dj := 9) rfl (lt1 rfl) rfl (lt1 rfl) (fun hg => .fieldP (lt1 rfl) (.t rfl) fld32_0)<| .guard (j := 4) (dj := 9) rfl (lt1 rfl) rfl (lt1 rfl) (fun hg => .loadP (lt1 rfl) (.gd hg (.t rfl)) one22 rfl rfl rfl)<| .guard (j := 4) (dj := 9) rfl (lt1 rfl) rfl (lt1 rfl) (fun hg => .lenRd (lt1 rfl) (.gd hg (.t rfl)) Try.underlying22)<| .guard (j := 4) (dj := 9) rfl (lt1 rfl) rfl (lt1 rfl) (fun hg => .gtr (lt1 rfl) (.gd hg (.t rfl)) (.const _ _ _))<| .cons (.pickOr (lt1 rfl) (.t rfl) (.const _ _ _) (.t rfl))<| .cons (.move (lt1 rfl) (.t rfl))<| .guard (j := 10) (dj := 15) rfl (lt1 rfl) rfl (lt1 rfl) (fun hg => .fieldP (lt1 rfl) (.t rfl) fld32_1)<| .guard (j := 10) (dj := 15) rfl (lt1 rfl) rfl (lt1 rfl) (fun hg => .loadP (lt1 rfl) (.gd hg (.t rfl)) one22 rfl rfl rfl)<| .guard (j := 10) (dj := 15) rfl (lt1 rfl) rfl (lt1 rfl) (fun hg => .lenRd (lt1 rfl) (.gd hg (.t rfl)) Try.underlying22)<| .guard (j := 10) (dj := 15) rfl (lt1 rfl) rfl (lt1 rfl) (fun hg => .fieldP (lt1 rfl) (.t rfl) fld32_0)<| .guard (j := 10) (dj := 15) rfl (lt1 rfl) rfl (lt1 rfl) (fun hg => .loadP (lt1 rfl) (.gd hg (.t rfl)) one22 rfl rfl rfl)<| .guard (j := 10) (dj := 15) rfl (lt1 rfl) rfl (lt1 rfl) (fun hg => .lenRd (lt1 rfl) (.gd hg (.t rfl)) Try.underlying22)<| .guard (j := 10) (dj := 15) rfl (lt1 rfl) rfl (lt1 rfl) (fun hg => .neq (lt1 rfl) (.gd hg (.t rfl)) (.gd hg (.t rfl)))<| .cons (.pickOr (lt1 rfl) (.t rfl) (.const _ _ _) (.t rfl))<| .cons (.move (lt1 rfl) (.t rfl))<| .guard (j := 19) (dj := 24) rfl (lt1 rfl) rfl (lt1 rfl) (fun hg => .fieldP (lt1 rfl) (.t rfl) fld32_2)<| .guard (j := 19) (dj := 24) rfl (lt1 rfl) rfl (lt1 rfl) (fun hg => .loadP (lt1 rfl) (.gd hg (.t rfl)) one3 rfl rfl rfl)<| .guard (j := 19) (dj := 24) rfl (lt1 rfl) rfl (lt1 rfl) (fun hg => .lss (lt1 rfl) (.gd hg (.t rfl)) (.const _ _ _))<| .cons (.pickOr (lt1 rfl) (.t rfl) (.const _ _ _) (.t rfl))<| .cons (.move (lt1 rfl) (.t rfl))<| .guard (j := 24) (dj := 29) rfl (lt1 rfl) rfl (lt1 rfl) (fun hg => .fieldP (lt1 rfl) (.t rfl) fld32_2)<| .guard (j := 24) (dj := 29) rfl (lt1 rfl) rfl (lt1 rfl) (fun hg => .loadP (lt1 rfl) (.gd hg (.t rfl)) one3 rfl rfl rfl)<| .guard (j := 24) (dj := 29) rfl (lt1 rfl) rfl (lt1 rfl) (fun hg => .gtr (lt1 rfl) (.gd hg (.t rfl)) (.const _ _ _))<| .cons (.pickOr (lt1 rfl) (.t rfl) (.const _ _ _) (.t rfl))<| .cons (.move (lt1 rfl) (.t rfl))<| .guard (j := 29) (dj := 34) rfl (lt1 rfl) rfl (lt1 rfl) (fun hg => .fieldP (lt1 rfl) (.t rfl) fld32_3)<| .guard (j := 29) (dj := 34) rfl (lt1 rfl) rfl (lt1 rfl) (fun hg => .loadP (lt1 rfl) (.gd hg (.t rfl)) one3 rfl rfl rfl)<| .guard (j := 29) (dj := 34) rfl (lt1 rfl) rfl (lt1 rfl) (fun hg => .lss (lt1 rfl) (.gd hg (.t rfl)) (.const _ _ _))<| .cons (.pickOr (lt1 rfl) (.t rfl) (.const _ _ _) (.t rfl))<| .cons (.move (lt1 rfl) (.t rfl))<| .guard (j := 34) (dj := 39) rfl (lt1 rfl) rfl (lt1 rfl) (fun hg => .fieldP (lt1 rfl) (.t rfl) fld32_3)<| .guard (j := 34) (dj := 39) rfl (lt1 rfl) rfl (lt1 rfl) (fun hg => .loadP (lt1 rfl) (.gd hg (.t rfl)) one3 rfl rfl rfl)<| .guard (j := 34) (dj := 39) rfl (lt1 rfl) rfl (lt1 rfl) (fun hg => .gtr (lt1 rfl) (.gd hg (.t rfl)) (.const _ _ _))<| .cons (.pickOr (lt1 rfl) (.t rfl) (.const _ _ _) (.t rfl))<| ARun.nil _ _ _) ?_
 refine AWP.vc (s' := ⟨[(1,.ptr 1 0),(43,bW t43_1)],[(1,⟨32,false,[rW β1 a0.Lengths eW,rW β2 a0.Demand eW,iW a0.Stock,iW a0.Kerf]⟩)]⟩) (by subst ht43_1; exact VC.sub (.of rfl) (.of rfl)) ?_
 refine AWP.cond (.t rfl) (fun hc => ?_) (fun hc => ?_)
 ·have h := iteT hc h
  refine AWP.seq ?_
  refine AWP.region (.cons (.assign (lt1 rfl) (.const _ _ _))<| ARun.nil _ _ _) ?_
  refine AWP.ret ?_
  obtain rfl := Option.some.inj h
  refine retJ (Res.vc (s' := ⟨[(2,bW false)],[]⟩) (VC.sub (.of rfl) (.n _)) ?_)
  refine Res.drop (H := []) rfl ?_
  exact Res.of rfl (.cons (.tmp rfl) (.nil)) rfl rfl
 ·have h := iteF hc h
  refine AWP.skip ?_
  refine AWP.seq ?_
  refine AWP.seq ?_
  refine AWP.region (.cons (.fieldP (lt1 rfl) (.t rfl) fld32_0)<| .cons (.loadP (lt1 rfl) (.t rfl) one22 rfl rfl rfl)<| .cons (.lenRd (lt1 rfl) (.t rfl) Try.underlying22)<| .cons (.move (lt1 rfl) (.const _ _ _))<| ARun.nil _ _ _) ?_
  refine AWP.vc (s' := ⟨[(1,.ptr 1 0),(45,rW β1 a0.Lengths eW),(46,iW (a0.Lengths.length : Int)),(47,iW (0 : Int))],[(1,⟨32,false,[rW β1 a0.Lengths eW,rW β2 a0.Demand eW,iW a0.Stock,iW a0.Kerf]⟩)]⟩) (VC.sub (.of rfl) (.of rfl)) ?_
  refine AWP.joinB' (S := fun p_17 : Unit => ⟨[],[]⟩) h (fun p_17 h => ?_) (fun k_18 h => ?_)
  ·refine AWP.seq ?_
   refine AWP.region (.cons (.assign (lt1 rfl) (.const _ _ _))<| ARun.nil _ _ _) ?_
   refine AWP.ret ?_
   obtain rfl := Option.some.inj h
   refine retJ (Res.vc (s' := ⟨[(2,bW true)],[]⟩) (VC.sub (.of rfl) (.n _)) ?_)
   refine Res.drop (H := []) rfl ?_
   exact Res.of rfl (.cons (.tmp rfl) (.nil)) rfl rfl
  ·refine AWP.vc (s' := ⟨[(1,.ptr 1 0),(45,rW β1 a0.Lengths eW),(46,iW (a0.Lengths.length : Int)),(47,iW (0 : Int))],[(1,⟨32,false,[rW β1 a0.Lengths eW,rW β2 a0.Demand eW,iW a0.Stock,iW a0.Kerf]⟩)]⟩) (VC.sub (.of rfl) (.of rfl)) ?_
   refine AWP.loopM (S := fun x_9 : Int => ⟨[(1,.ptr 1 0),(45,rW β1 a0.Lengths eW),(46,iW (a0.Lengths.length : Int)),(47,iW x_9)],[(1,⟨32,false,[rW β1 a0.Lengths eW,rW β2 a0.Demand eW,iW a0.Stock,iW a0.Kerf]⟩)]⟩) (x := (0 : Int)) (fun nx_10 x_9 h => ?_) h
   unfold m21_L1 at h
   refine AWP.seq ?_
   refine AWP.region (.cons (.lss (lt1 rfl) (.t rfl) (.t rfl))<| ARun.nil _ _ _) ?_
   refine AWP.vc (s' := ⟨[(1,.ptr 1 0),(45,rW β1 a0.Lengths eW),(46,iW (a0.Lengths.length : Int)),(47,iW x_9),(48,bW (decide (x_9 < (a0.Lengths.length : Int))))],[(1,⟨32,false,[rW β1 a0.Lengths eW,rW β2 a0.Demand eW,iW a0.Stock,iW a0.Kerf]⟩)]⟩) (VC.sub (.of rfl) (.of rfl)) ?_
   refine AWP.seq ?_
   refine AWP.cond (.t rfl) (fun hc => ?_) (fun hc => ?_)
   ·have h := iteT hc h
    refine AWP.skip ?_
    refine AWP.seq ?_
    refine AWP.block ?_
    refine AWP.seq ?_
    obtain ⟨y_11,hy_11,h⟩ := bindS h
    refine AWP.region (.cons (.move (lt1 rfl) (.t rfl))<| .cons (.indexRd (enc := eW) (lt1 rfl) (.t rfl) (.t rfl) Try.underlying22 sz3 (encI_len .i64) rfl hy_11)<| .cons (.loadR (v := iW y_11) (lt1 rfl) (.t rfl) one3 rfl)<| .cons (.assign (lt1 rfl) (.t rfl))<| .cons (.assign (lt1 rfl) (.t rfl))<| ARun.nil _ _ _) ?_
    refine AWP.vc (s' := ⟨[(1,.ptr 1 0),(45,rW β1 a0.Lengths eW),(46,iW (a0.Lengths.length : Int)),(47,iW x_9),(3,iW x_9),(4,iW y_11)],[(1,⟨32,false,[rW β1 a0.Lengths eW,rW β2 a0.Demand eW,iW a0.Stock,iW a0.Kerf]⟩)]⟩) (VC.sub (.of rfl) (.of rfl)) ?_
    refine AWP.seq ?_
    obtain ⟨y_12,hy_12,h⟩ := bindS h
    obtain ⟨y_13,hy_13,h⟩ := bindS h
    obtain ⟨y_14,hy_14,h⟩ := bindS h
    obtain ⟨t89_15,ht89_15,h⟩ := letS h
    refine AWP.region (.cons (.move (lt1 rfl) (.t rfl))<| .cons (.lss (lt1 rfl) (.t rfl) (.const _ _ _))<| .cons (.move (lt1 rfl) (.t rfl))<| .guard (j := 2) (dj := 54) rfl (lt1 rfl) rfl (lt1 rfl) (fun hg => .move (lt1 rfl) (.t rfl))<| .guard (j := 2) (dj := 54) rfl (lt1 rfl) rfl (lt1 rfl) (fun hg => .fieldP (lt1 rfl) (.t rfl) fld32_2)<| .guard (j := 2) (dj := 54) rfl (lt1 rfl) rfl (lt1 rfl) (fun hg => .loadP (lt1 rfl) (.gd hg (.t rfl)) one3 rfl rfl rfl)<| .guard (j := 2) (dj := 54) rfl (lt1 rfl) rfl (lt1 rfl) (fun hg => .gtr (lt1 rfl) (.gd hg (.t rfl)) (.gd hg (.t rfl)))<| .cons (.pickOr (lt1 rfl) (.t rfl) (.const _ _ _) (.t rfl))<| .cons (.move (lt1 rfl) (.t rfl))<| .guard (j := 8) (dj := 60) rfl (lt1 rfl) rfl (lt1 rfl) (fun hg => .move (lt1 rfl) (.t rfl))<| .guard (j := 8) (dj := 60) rfl (lt1 rfl) rfl (lt1 rfl) (fun hg => .gtr (lt1 rfl) (.gd hg (.t rfl)) (.const _ _ _))<| .guard (j := 8) (dj := 60) rfl (lt1 rfl) rfl (lt1 rfl) (fun hg => .move (lt1 rfl) (.gd hg (.t rfl)))<| .guard2 (j := 11) (dj := 63) rfl (lt1 rfl) rfl (lt1 rfl) (fun hg => .move (lt1 rfl) (.t rfl))<| .guard2 (j := 11) (dj := 63) rfl (lt1 rfl) rfl (lt1 rfl) (fun hg => .fieldP (lt1 rfl) (.t rfl) fld32_0)<| .guard2 (j := 11) (dj := 63) rfl (lt1 rfl) rfl (lt1 rfl) (fun hg => .loadP (lt1 rfl) (.gd hg (.t rfl)) one22 rfl rfl rfl)<| .guard2 (j := 11) (dj := 63) rfl (lt1 rfl) rfl (lt1 rfl) (fun hg => .move (lt1 rfl) (.t rfl))<| .guard2 (j := 11) (dj := 63) rfl (lt1 rfl) rfl (lt1 rfl) (fun hg => .sub (lt1 rfl) (.gd hg (.t rfl)) (.const _ _ _))<| .guard2 (j := 11) (dj := 63) rfl (lt1 rfl) rfl (lt1 rfl) (fun hg => .indexRd (enc := eW) (lt1 rfl) (.gd hg (.t rfl)) (.gd hg (.t rfl)) Try.underlying22 sz3 (encI_len .i64) rfl (gdB hy_12 hg))<| .guard2 (j := 11) (dj := 63) rfl (lt1 rfl) rfl (lt1 rfl) (fun hg => .loadR (v := iW y_12) (lt1 rfl) (.gd hg (.t rfl)) one3 rfl)<| .guard2 (j := 11) (dj := 63) rfl (lt1 rfl) rfl (lt1 rfl) (fun hg => .geq (lt1 rfl) (.gd hg (.t rfl)) (.gd hg (.t rfl)))<| .guard (j := 8) (dj := 60) rfl (lt1 rfl) rfl (lt1 rfl) (fun hg => .pickAnd (lt1 rfl) (.gd hg (.t rfl)) (.gdAnd hg (.t rfl)) (.const _ _ _))<| .cons (.pickOr (lt1 rfl) (.t rfl) (.const _ _ _) (.t rfl))<| .cons (.move (lt1 rfl) (.t rfl))<| .guard (j := 22) (dj := 74) rfl (lt1 rfl) rfl (lt1 rfl) (fun hg => .fieldP (lt1 rfl) (.t rfl) fld32_1)<| .guard (j := 22) (dj := 74) rfl (lt1 rfl) rfl (lt1 rfl) (fun hg => .loadP (lt1 rfl) (.gd hg (.t rfl)) one22 rfl rfl rfl)<| .guard (j := 22) (dj := 74) rfl (lt1 rfl) rfl (lt1 rfl) (fun hg => .move (lt1 rfl) (.t rfl))<| .guard (j := 22) (dj := 74) rfl (lt1 rfl) rfl (lt1 rfl) (fun hg => .indexRd (enc := eW) (lt1 rfl) (.gd hg (.t rfl)) (.gd hg (.t rfl)) Try.underlying22 sz3 (encI_len .i64) rfl (gdB hy_13 hg))<| .guard (j := 22) (dj := 74) rfl (lt1 rfl) rfl (lt1 rfl) (fun hg => .loadR (v := iW y_13) (lt1 rfl) (.gd hg (.t rfl)) one3 rfl)<| .guard (j := 22) (dj := 74) rfl (lt1 rfl) rfl (lt1 rfl) (fun hg => .lss (lt1 rfl) (.gd hg (.t rfl)) (.const _ _ _))<| .cons (.pickOr (lt1 rfl) (.t rfl) (.const _ _ _) (.t rfl))<| .cons (.move (lt1 rfl) (.t rfl))<| .guard (j := 30) (dj := 82) rfl (lt1 rfl) rfl (lt1 rfl) (fun hg => .fieldP (lt1 rfl) (.t rfl) fld32_1)<| .guard (j := 30) (dj := 82) rfl (lt1 rfl) rfl (lt1 rfl) (fun hg => .loadP (lt1 rfl) (.gd hg (.t rfl)) one22 rfl rfl rfl)<| .guard (j := 30) (dj := 82) rfl (lt1 rfl) rfl (lt1 rfl) (fun hg => .move (lt1 rfl) (.t rfl))<| .guard (j := 30) (dj := 82) rfl (lt1 rfl) rfl (lt1 rfl) (fun hg => .indexRd (enc := eW) (lt1 rfl) (.gd hg (.t rfl)) (.gd hg (.t rfl)) Try.underlying22 sz3 (encI_len .i64) rfl (gdB hy_14 hg))<| .guard (j := 30) (dj := 82) rfl (lt1 rfl) rfl (lt1 rfl) (fun hg => .loadR (v := iW y_14) (lt1 rfl) (.gd hg (.t rfl)) one3 rfl)<| .guard (j := 30) (dj := 82) rfl (lt1 rfl) rfl (lt1 rfl) (fun hg => .gtr (lt1 rfl) (.gd hg (.t rfl)) (.const _ _ _))<| .cons (.pickOr (lt1 rfl) (.t rfl) (.const _ _ _) (.t rfl))<| ARun.nil _ _ _) ?_
    refine AWP.vc (s' := ⟨[(1,.ptr 1 0),(45,rW β1 a0.Lengths eW),(46,iW (a0.Lengths.length : Int)),(47,iW x_9),(89,bW t89_15)],[(1,⟨32,false,[rW β1 a0.Lengths eW,rW β2 a0.Demand eW,iW a0.Stock,iW a0.Kerf]⟩)]⟩) (by subst ht89_15; exact VC.sub (.of rfl) (.of rfl)) ?_
    refine AWP.cond (.t rfl) (fun hc => ?_) (fun hc => ?_)
    ·have h := iteT hc h
     refine AWP.seq ?_
     refine AWP.region (.cons (.assign (lt1 rfl) (.const _ _ _))<| ARun.nil _ _ _) ?_
     refine AWP.ret ?_
     obtain rfl := Option.some.inj h
     refine retJ (Res.vc (s' := ⟨[(2,bW false)],[]⟩) (VC.sub (.of rfl) (.n _)) ?_)
     refine Res.drop (H := []) rfl ?_
     exact Res.of rfl (.cons (.tmp rfl) (.nil)) rfl rfl
    ·have h := iteF hc h
     refine AWP.skip ?_
     obtain ⟨t47_16,ht47_16,h⟩ := letS h
     refine AWP.region (.cons (.add (lt1 rfl) (.t rfl) (.const _ _ _))<| .cons (.move (lt1 rfl) (.t rfl))<| ARun.nil _ _ _) ?_
     exact endJ t47_16 h (by subst ht47_16; exact VC.sub (.of rfl) (.of rfl))
   ·have h := iteF hc h
    refine AWP.exit ?_
    exact endJ () h (VC.sub (.n _) (.n _))
theorem c47 {β1 : Bool} {β2 : Bool} (n : Nat) (a0 : R23) (a1 : Int) {r : Int} (h : m47 n a0 a1 = some r) : Spec Try.prog 47 [] [.agg [rW β1 a0.Lengths eW,rW β2 a0.Demand eW,iW a0.Stock,iW a0.Kerf],iW a1] [] (iW r) [] := by
 refine Spec.of (fn := Try.f47) Try.func47 Try.ntmps47 rfl rfl (le1 rfl) (fun w0 Zs Zb T0 ι0 => ?_)
 unfold m47 at h
 refine AWP.seq ?_
 refine AWP.region (.cons (.box (t := 1) (n := 4) (lt1 rfl) (nm rfl) (.t rfl) (by first | exact ⟨rfl,rfl⟩ | rfl) rfl)<| .cons (.assign (lt1 rfl) (.const _ _ _))<| ARun.nil _ _ _) ?_
 refine AWP.vc (s' := ⟨[(1,iW a1),(2,.ptr 1 0)],[(1,⟨32,false,[rW β1 a0.Lengths eW,rW β2 a0.Demand eW,iW a0.Stock,iW a0.Kerf]⟩)]⟩) (VC.sub (.of rfl) (.of rfl)) ?_
 refine AWP.seq ?_
 obtain ⟨y_1,hy_1,h⟩ := bindS h
 obtain ⟨t4_2,ht4_2,h⟩ := letS h
 refine AWP.draw (s' := ⟨[(4,iW (IntKind.wrap .i64 (y_1 + a0.Kerf)))],[(1,⟨32,false,[rW β1 a0.Lengths eW,rW β2 a0.Demand eW,iW a0.Stock,iW a0.Kerf]⟩)]⟩) mixed [⟨1,iW a1,none,[]⟩,⟨2,.ptr 1 0,none,[]⟩,⟨5,.ptr 1 (0 + 0),some 0,[]⟩,⟨6,rW β1 a0.Lengths eW,some 1,[]⟩,⟨7,iW a1,some 2,[]⟩,⟨8,.rptr β1 [iW y_1],some 3,[]⟩,⟨9,iW y_1,some 4,[]⟩,⟨10,.ptr 1 (0 + 3),some 5,[]⟩,⟨11,iW a0.Kerf,some 6,[]⟩,⟨12,iW (IntKind.wrap .i64 (y_1 + a0.Kerf)),some 7,[]⟩,⟨4,iW (IntKind.wrap .i64 (y_1 + a0.Kerf)),some 8,[]⟩] [⟨[1],0,0,some (5,.ptr 1 (0 + 0)),[]⟩,⟨[2],0,0,some (6,rW β1 a0.Lengths eW),[]⟩,⟨[0],0,0,some (7,iW a1),[]⟩,⟨[3,4],0,0,some (8,.rptr β1 [iW y_1]),[]⟩,⟨[5],0,0,some (9,iW y_1),[]⟩,⟨[1],0,0,some (10,.ptr 1 (0 + 3)),[]⟩,⟨[7],0,0,some (11,iW a0.Kerf),[]⟩,⟨[6,8],0,0,some (12,iW (IntKind.wrap .i64 (y_1 + a0.Kerf))),[]⟩,⟨[9],0,0,some (4,iW (IntKind.wrap .i64 (y_1 + a0.Kerf))),[]⟩] [] [[(1,⟨32,false,[rW β1 a0.Lengths eW,rW β2 a0.Demand eW,iW a0.Stock,iW a0.Kerf]⟩)]] [[],[0],[],[0,1,2],[0,1,2,3],[],[5],[0,1,2,3,4,5,6],[0,1,2,3,4,5,6,7]] (by kernel_rfl) (by kernel_rfl) (BornL.ok (.o<| .o<| .b rfl rfl<| .b rfl rfl<| .b rfl rfl<| .b rfl rfl<| .b rfl rfl<| .b rfl rfl<| .b rfl rfl<| .b rfl rfl<| .b rfl rfl<| .n)) (BaseL.ok (.o rfl<| .o rfl<| .b<| .b<| .b<| .b<| .b<| .b<| .b<| .b<| .b<| .n)) rfl (by decide) (allLt rfl) (.read rfl (.c (.put (fun E hE => .fieldP (lt1 rfl) (.tmp (hE.at (k := 0) rfl)) fld32_0)) .n)<| .read rfl (.c (.put (fun E hE => .loadP (lt1 rfl) (.tmp (hE.at (k := 0) rfl)) one22 rfl rfl rfl)) .n)<| .pure rfl (fun H => .put (fun E hE => .move (lt1 rfl) (.tmp (hE.at (k := 0) rfl))))<| .pure rfl (fun H => .put (fun E hE => .indexRd (enc := eW) (lt1 rfl) (.tmp (hE.at (k := 0) rfl)) (.tmp (hE.at (k := 1) rfl)) Try.underlying22 sz3 (encI_len .i64) rfl hy_1))<| .pure rfl (fun H => .put (fun E hE => .loadR (v := iW y_1) (lt1 rfl) (.tmp (hE.at (k := 0) rfl)) one3 rfl))<| .read rfl (.c (.put (fun E hE => .fieldP (lt1 rfl) (.tmp (hE.at (k := 0) rfl)) fld32_3)) .n)<| .read rfl (.c (.put (fun E hE => .loadP (lt1 rfl) (.tmp (hE.at (k := 0) rfl)) one3 rfl rfl rfl)) .n)<| .pure rfl (fun H => .put (fun E hE => .add (lt1 rfl) (.tmp (hE.at (k := 0) rfl)) (.tmp (hE.at (k := 1) rfl))))<| .pure rfl (fun H => .put (fun E hE => .assign (lt1 rfl) (.tmp (hE.at (k := 0) rfl))))<| .nil _) (fun E hE => .c (DInv.at hE (k := 10) rfl rfl rfl)<| .n _) rfl ?_
 refine AWP.ret ?_
 obtain rfl := Option.some.inj h
 refine retJ (Res.vc (s' := ⟨[(4,iW t4_2)],[]⟩) (by subst ht4_2; exact VC.sub (.of rfl) (.n _)) ?_)
 refine Res.drop (H := []) rfl ?_
 exact Res.of rfl (.cons (.tmp rfl) (.nil)) rfl rfl
theorem c63 {β1 : Bool} {β2 : Bool} (n : Nat) (a0 : R23) (a1 : Int) {r : (List Int)} (h : m63 n a0 a1 = some r) : Spec Try.prog 63 [] [.agg [rW β1 a0.Lengths eW,rW β2 a0.Demand eW,iW a0.Stock,iW a0.Kerf],iW a1] [] (.clo (.func 72) [] [.ptr 3 0,.ptr 5 0,.ptr 2 0,.ptr 1 0]) [(5,⟨22,false,[.own 4 1 0 r.length]⟩),(4,⟨3,true,r.flatMap eW⟩),(3,⟨3,false,[iW (a0.Lengths.length : Int)]⟩),(2,⟨3,false,[iW a1]⟩),(1,⟨32,false,[rW β1 a0.Lengths eW,rW β2 a0.Demand eW,iW a0.Stock,iW a0.Kerf]⟩)] := by
 refine Spec.of (fn := Try.f63) Try.func63 Try.ntmps63 rfl rfl (le1 rfl) (fun w0 Zs Zb T0 ι0 => ?_)
 unfold m63 at h
 refine AWP.seq ?_
 refine AWP.region (.cons (.box (t := 1) (n := 4) (lt1 rfl) (nm rfl) (.t rfl) (by first | exact ⟨rfl,rfl⟩ | rfl) rfl)<| .cons (.box (t := 2) (n := 1) (lt1 rfl) (nm rfl) (.t rfl) (by first | exact ⟨rfl,rfl⟩ | rfl) rfl)<| .cons (.assign (lt1 rfl) (.const _ _ _))<| ARun.nil _ _ _) ?_
 refine AWP.vc (s' := ⟨[(2,.ptr 1 0),(3,.ptr 2 0)],[(2,⟨3,false,[iW a1]⟩),(1,⟨32,false,[rW β1 a0.Lengths eW,rW β2 a0.Demand eW,iW a0.Stock,iW a0.Kerf]⟩)]⟩) (VC.sub (.of rfl) (.of rfl)) ?_
 refine AWP.seq ?_
 refine AWP.region (.cons (.fieldP (lt1 rfl) (.t rfl) fld32_0)<| .cons (.loadP (lt1 rfl) (.t rfl) one22 rfl rfl rfl)<| .cons (.lenRd (lt1 rfl) (.t rfl) Try.underlying22)<| .cons (.alloc (t := 3) (k := ⟨3,false,[iW (0 : Int)]⟩) (lt1 rfl) (nm rfl) zero3 rfl rfl)<| .cons (.storeP (.t rfl) (.t rfl) sz3 rfl (lt1 rfl) rfl (by intro h; cases h) rfl)<| ARun.nil _ _ _) ?_
 refine AWP.vc (s' := ⟨[(2,.ptr 1 0),(3,.ptr 2 0),(5,.ptr 3 0)],[(3,⟨3,false,[iW (a0.Lengths.length : Int)]⟩),(2,⟨3,false,[iW a1]⟩),(1,⟨32,false,[rW β1 a0.Lengths eW,rW β2 a0.Demand eW,iW a0.Stock,iW a0.Kerf]⟩)]⟩) (VC.sub (.of rfl) (.of rfl)) ?_
 refine AWP.seq ?_
 obtain ⟨l4_1,hl4_1,h⟩ := bindS h
 refine AWP.region (.cons (.loadP (lt1 rfl) (.t rfl) one3 rfl rfl rfl)<| .cons (.add (lt1 rfl) (.t rfl) (.const _ _ _))<| .cons (.mkS (enc := eW) (t := 4) (lt1 rfl) (nm rfl) (.t rfl) (.t rfl) Try.underlying22 zero3 el3 rfl (encI_len .i64) (by decide) hl4_1)<| .cons (.alloc (t := 5) (k := ⟨22,false,[.sc (.slice none 0 0)]⟩) (lt1 rfl) (nm rfl) zero22 rfl rfl)<| .cons (.storeP (.t rfl) (.t rfl) sz22 rfl (lt1 rfl) rfl (by intro h; cases h) rfl)<| ARun.nil _ _ _) ?_
 refine AWP.vc (s' := ⟨[(2,.ptr 1 0),(3,.ptr 2 0),(5,.ptr 3 0),(6,.ptr 5 0)],[(5,⟨22,false,[.own 4 1 0 l4_1.length]⟩),(4,⟨3,true,l4_1.flatMap eW⟩),(3,⟨3,false,[iW (a0.Lengths.length : Int)]⟩),(2,⟨3,false,[iW a1]⟩),(1,⟨32,false,[rW β1 a0.Lengths eW,rW β2 a0.Demand eW,iW a0.Stock,iW a0.Kerf]⟩)]⟩) (VC.sub (.of rfl) (.of rfl)) ?_
 refine AWP.seq ?_
 refine AWP.seq ?_
 obtain ⟨t7_2,ht7_2,h⟩ := letS h
 refine AWP.region (.cons (.loadP (lt1 rfl) (.t rfl) one3 rfl rfl rfl)<| .cons (.sub (lt1 rfl) (.t rfl) (.const _ _ _))<| .cons (.assign (lt1 rfl) (.t rfl))<| ARun.nil _ _ _) ?_
 refine AWP.vc (s' := ⟨[(2,.ptr 1 0),(3,.ptr 2 0),(5,.ptr 3 0),(6,.ptr 5 0),(7,iW t7_2)],[(5,⟨22,false,[.own 4 1 0 l4_1.length]⟩),(4,⟨3,true,l4_1.flatMap eW⟩),(3,⟨3,false,[iW (a0.Lengths.length : Int)]⟩),(2,⟨3,false,[iW a1]⟩),(1,⟨32,false,[rW β1 a0.Lengths eW,rW β2 a0.Demand eW,iW a0.Stock,iW a0.Kerf]⟩)]⟩) (by subst ht7_2; exact VC.sub (.of rfl) (.of rfl)) ?_
 refine AWP.joinB' (S := fun p_25 : (List Int) => ⟨[(2,.ptr 1 0),(3,.ptr 2 0),(5,.ptr 3 0),(6,.ptr 5 0)],[(1,⟨32,false,[rW β1 a0.Lengths eW,rW β2 a0.Demand eW,iW a0.Stock,iW a0.Kerf]⟩),(2,⟨3,false,[iW a1]⟩),(3,⟨3,false,[iW (a0.Lengths.length : Int)]⟩),(5,⟨22,false,[.own 4 1 0 p_25.length]⟩),(4,⟨3,true,p_25.flatMap eW⟩)]⟩) h (fun p_25 h => ?_) (fun k_26 h => ?_)
 ·refine AWP.seq ?_
  refine AWP.region (.cons (.makeFunc (lt1 rfl) (.nil) (.cons (.t rfl) (.cons (.t rfl) (.cons (.t rfl) (.cons (.t rfl) (.nil))))))<| .cons (.assign (lt1 rfl) (.t rfl))<| ARun.nil _ _ _) ?_
  refine AWP.ret ?_
  obtain rfl := Option.some.inj h
  refine retJ (Res.vc (s' := ⟨[(4,.clo (.func 72) [] [.ptr 3 0,.ptr 5 0,.ptr 2 0,.ptr 1 0])],[(5,⟨22,false,[.own 4 1 0 p_25.length]⟩),(4,⟨3,true,p_25.flatMap eW⟩),(3,⟨3,false,[iW (a0.Lengths.length : Int)]⟩),(2,⟨3,false,[iW a1]⟩),(1,⟨32,false,[rW β1 a0.Lengths eW,rW β2 a0.Demand eW,iW a0.Stock,iW a0.Kerf]⟩)]⟩) (VC.sub (.of rfl) (.of rfl)) ?_)
  refine Res.sub (H := [(5,⟨22,false,[.own 4 1 0 p_25.length]⟩),(4,⟨3,true,p_25.flatMap eW⟩),(3,⟨3,false,[iW (a0.Lengths.length : Int)]⟩),(2,⟨3,false,[iW a1]⟩),(1,⟨32,false,[rW β1 a0.Lengths eW,rW β2 a0.Demand eW,iW a0.Stock,iW a0.Kerf]⟩)]) (.of rfl) ?_
  exact Res.of rfl (.cons (.tmp rfl) (.nil)) rfl rfl
 ·refine AWP.vc (s' := ⟨[(2,.ptr 1 0),(3,.ptr 2 0),(5,.ptr 3 0),(6,.ptr 5 0),(7,iW t7_2)],[(1,⟨32,false,[rW β1 a0.Lengths eW,rW β2 a0.Demand eW,iW a0.Stock,iW a0.Kerf]⟩),(2,⟨3,false,[iW a1]⟩),(3,⟨3,false,[iW (a0.Lengths.length : Int)]⟩),(5,⟨22,false,[.own 4 1 0 l4_1.length]⟩),(4,⟨3,true,l4_1.flatMap eW⟩)]⟩) (VC.sub (.of rfl) (.of rfl)) ?_
  refine AWP.loopM (S := fun x_17 : Int × (List Int) => ⟨[(2,.ptr 1 0),(3,.ptr 2 0),(5,.ptr 3 0),(6,.ptr 5 0),(7,iW x_17.1)],[(1,⟨32,false,[rW β1 a0.Lengths eW,rW β2 a0.Demand eW,iW a0.Stock,iW a0.Kerf]⟩),(2,⟨3,false,[iW a1]⟩),(3,⟨3,false,[iW (a0.Lengths.length : Int)]⟩),(5,⟨22,false,[.own 4 1 0 x_17.2.length]⟩),(4,⟨3,true,x_17.2.flatMap eW⟩)]⟩) (x := (t7_2,l4_1)) (fun nx_18 x_17 h => ?_) h
  unfold m63_L1 at h
  refine AWP.seq ?_
  refine AWP.seq ?_
  refine AWP.region (.cons (.move (lt1 rfl) (.t rfl))<| .cons (.geq (lt1 rfl) (.t rfl) (.const _ _ _))<| ARun.nil _ _ _) ?_
  refine AWP.vc (s' := ⟨[(2,.ptr 1 0),(3,.ptr 2 0),(5,.ptr 3 0),(6,.ptr 5 0),(7,iW x_17.1),(17,bW (decide ((0 : Int) ≤ x_17.1)))],[(1,⟨32,false,[rW β1 a0.Lengths eW,rW β2 a0.Demand eW,iW a0.Stock,iW a0.Kerf]⟩),(2,⟨3,false,[iW a1]⟩),(3,⟨3,false,[iW (a0.Lengths.length : Int)]⟩),(5,⟨22,false,[.own 4 1 0 x_17.2.length]⟩),(4,⟨3,true,x_17.2.flatMap eW⟩)]⟩) (VC.sub (.of rfl) (.of rfl)) ?_
  refine AWP.cond (.t rfl) (fun hc => ?_) (fun hc => ?_)
  ·have h := iteT hc h
   refine AWP.skip ?_
   refine AWP.seq ?_
   refine AWP.block ?_
   obtain ⟨y_19,hy_19,h⟩ := bindS h
   obtain ⟨y_20,hy_20,h⟩ := bindS h
   obtain ⟨y_21,hy_21,h⟩ := bindS h
   obtain ⟨y_22,hy_22,h⟩ := bindS h
   obtain ⟨l4_23,hl4_23,h⟩ := bindS h
   refine AWP.draw (s' := ⟨[(2,.ptr 1 0),(3,.ptr 2 0),(5,.ptr 3 0),(6,.ptr 5 0),(7,iW x_17.1)],[(1,⟨32,false,[rW β1 a0.Lengths eW,rW β2 a0.Demand eW,iW a0.Stock,iW a0.Kerf]⟩),(2,⟨3,false,[iW a1]⟩),(3,⟨3,false,[iW (a0.Lengths.length : Int)]⟩),(5,⟨22,false,[.own 4 1 0 l4_23.length]⟩),(4,⟨3,true,l4_23.flatMap eW⟩)]⟩) mixed [⟨2,.ptr 1 0,none,[]⟩,⟨3,.ptr 2 0,none,[]⟩,⟨5,.ptr 3 0,none,[]⟩,⟨6,.ptr 5 0,none,[]⟩,⟨7,iW x_17.1,none,[]⟩,⟨17,bW (decide ((0 : Int) ≤ x_17.1)),none,[]⟩,⟨20,.own 4 1 0 x_17.2.length,some 0,[]⟩,⟨21,iW x_17.1,some 1,[]⟩,⟨22,.own 4 1 0 x_17.2.length,some 2,[]⟩,⟨23,iW x_17.1,some 3,[]⟩,⟨24,iW (IntKind.wrap .i64 (x_17.1 + (1 : Int))),some 4,[]⟩,⟨25,.ptr 4 (0 + ((IntKind.wrap .i64 (x_17.1 + (1 : Int)))).toNat * 1),some 5,[]⟩,⟨26,iW y_19,some 6,[]⟩,⟨27,.ptr 1 (0 + 1),some 7,[]⟩,⟨28,rW β2 a0.Demand eW,some 8,[]⟩,⟨29,iW x_17.1,some 9,[]⟩,⟨30,.rptr β2 [iW y_20],some 10,[]⟩,⟨31,iW y_20,some 11,[]⟩,⟨32,.agg [rW β1 a0.Lengths eW,rW β2 a0.Demand eW,iW a0.Stock,iW a0.Kerf],some 12,[]⟩,⟨33,iW x_17.1,some 13,[]⟩,⟨34,iW y_21,some 14,[]⟩,⟨35,iW (IntKind.wrap .i64 (y_20 * y_21)),some 15,[]⟩,⟨36,iW (IntKind.wrap .i64 (y_19 + (IntKind.wrap .i64 (y_20 * y_21)))),some 16,[]⟩,⟨37,.ptr 4 (0 + (x_17.1).toNat * 1),some 17,[]⟩] [⟨[3],0,0,some (20,.own 4 1 0 x_17.2.length),[]⟩,⟨[4],0,1,some (21,iW x_17.1),[]⟩,⟨[3],0,0,some (22,.own 4 1 0 x_17.2.length),[]⟩,⟨[4],0,1,some (23,iW x_17.1),[]⟩,⟨[9],0,1,some (24,iW (IntKind.wrap .i64 (x_17.1 + (1 : Int)))),[]⟩,⟨[8,10],0,0,some (25,.ptr 4 (0 + ((IntKind.wrap .i64 (x_17.1 + (1 : Int)))).toNat * 1)),[]⟩,⟨[11],0,0,some (26,iW y_19),[]⟩,⟨[0],0,0,some (27,.ptr 1 (0 + 1)),[]⟩,⟨[13],0,0,some (28,rW β2 a0.Demand eW),[]⟩,⟨[4],0,1,some (29,iW x_17.1),[]⟩,⟨[14,15],0,1,some (30,.rptr β2 [iW y_20]),[]⟩,⟨[16],0,1,some (31,iW y_20),[]⟩,⟨[0],0,0,some (32,.agg [rW β1 a0.Lengths eW,rW β2 a0.Demand eW,iW a0.Stock,iW a0.Kerf]),[]⟩,⟨[4],0,1,some (33,iW x_17.1),[]⟩,⟨[18,19],0,1,some (34,iW y_21),[]⟩,⟨[17,20],0,1,some (35,iW (IntKind.wrap .i64 (y_20 * y_21))),[]⟩,⟨[12,21],0,1,some (36,iW (IntKind.wrap .i64 (y_19 + (IntKind.wrap .i64 (y_20 * y_21))))),[]⟩,⟨[6,7],0,0,some (37,.ptr 4 (0 + (x_17.1).toNat * 1)),[]⟩,⟨[23,22],0,0,none,[]⟩] [18] [[(1,⟨32,false,[rW β1 a0.Lengths eW,rW β2 a0.Demand eW,iW a0.Stock,iW a0.Kerf]⟩),(2,⟨3,false,[iW a1]⟩),(3,⟨3,false,[iW (a0.Lengths.length : Int)]⟩),(5,⟨22,false,[.own 4 1 0 x_17.2.length]⟩),(4,⟨3,true,x_17.2.flatMap eW⟩)],[(1,⟨32,false,[rW β1 a0.Lengths eW,rW β2 a0.Demand eW,iW a0.Stock,iW a0.Kerf]⟩),(2,⟨3,false,[iW a1]⟩),(3,⟨3,false,[iW (a0.Lengths.length : Int)]⟩),(5,⟨22,false,[.own 4 1 0 l4_23.length]⟩),(4,⟨3,true,l4_23.flatMap eW⟩)]] [[],[],[],[],[3],[2,3,4],[2,3,4,5],[],[7],[],[7,8,9],[7,8,9,10],[],[],[12,13],[7,8,9,10,11,12,13,14],[2,3,4,5,6,7,8,9,10,11,12,13,14,15],[0,1,2,3,4,5,6,7,8,9,10,11,12,13,14,15,16],[0,1,2,3,4,5,6,7,8,9,10,11,12,13,14,15,16,17]] (by kernel_rfl) (by kernel_rfl) (BornL.ok (.o<| .o<| .o<| .o<| .o<| .o<| .b rfl rfl<| .b rfl rfl<| .b rfl rfl<| .b rfl rfl<| .b rfl rfl<| .b rfl rfl<| .b rfl rfl<| .b rfl rfl<| .b rfl rfl<| .b rfl rfl<| .b rfl rfl<| .b rfl rfl<| .b rfl rfl<| .b rfl rfl<| .b rfl rfl<| .b rfl rfl<| .b rfl rfl<| .b rfl rfl<| .n)) (BaseL.ok (.o rfl<| .o rfl<| .o rfl<| .o rfl<| .o rfl<| .o rfl<| .b<| .b<| .b<| .b<| .b<| .b<| .b<| .b<| .b<| .b<| .b<| .b<| .b<| .b<| .b<| .b<| .b<| .b<| .n)) rfl (by decide) (allLt rfl) (.read rfl (.c (.put (fun E hE => .loadP (lt1 rfl) (.tmp (hE.at (k := 0) rfl)) one22 rfl rfl rfl)) (.n))<| .pure rfl (fun H => .put (fun E hE => .move (lt1 rfl) (.tmp (hE.at (k := 0) rfl))))<| .read rfl (.c (.put (fun E hE => .loadP (lt1 rfl) (.tmp (hE.at (k := 0) rfl)) one22 rfl rfl rfl)) (.n))<| .pure rfl (fun H => .put (fun E hE => .move (lt1 rfl) (.tmp (hE.at (k := 0) rfl))))<| .pure rfl (fun H => .put (fun E hE => .add (lt1 rfl) (.tmp (hE.at (k := 0) rfl)) (.const _ _ _)))<| .read rfl (.c (.put (fun E hE => .idxOwn (lt1 rfl) (.tmp (hE.at (k := 0) rfl)) (.tmp (hE.at (k := 1) rfl)) Try.underlying22 sz3 rfl hy_19)) (.n))<| .read rfl (.c (.put (fun E hE => .loadP (lt1 rfl) (.tmp (hE.at (k := 0) rfl)) one3 rfl (cell_at1 (encI_len .i64) hy_19) rfl)) (.n))<| .read rfl (.c (.put (fun E hE => .fieldP (lt1 rfl) (.tmp (hE.at (k := 0) rfl)) fld32_1)) (.n))<| .read rfl (.c (.put (fun E hE => .loadP (lt1 rfl) (.tmp (hE.at (k := 0) rfl)) one22 rfl rfl rfl)) (.n))<| .pure rfl (fun H => .put (fun E hE => .move (lt1 rfl) (.tmp (hE.at (k := 0) rfl))))<| .pure rfl (fun H => .put (fun E hE => .indexRd (enc := eW) (lt1 rfl) (.tmp (hE.at (k := 0) rfl)) (.tmp (hE.at (k := 1) rfl)) Try.underlying22 sz3 (encI_len .i64) rfl hy_20))<| .pure rfl (fun H => .put (fun E hE => .loadR (v := iW y_20) (lt1 rfl) (.tmp (hE.at (k := 0) rfl)) one3 rfl))<| .read rfl (.c (.put (fun E hE => .loadPA (lt1 rfl) (.tmp (hE.at (k := 0) rfl)) agg32 rfl rfl rfl rfl)) (.n))<| .pure rfl (fun H => .put (fun E hE => .move (lt1 rfl) (.tmp (hE.at (k := 0) rfl))))<| .pure rfl (fun H => .put (fun E hE => .call0 (bw := false) (lt1 rfl) (c47 (β1 := β1) (β2 := β2) n (R23.mk a0.Lengths a0.Demand a0.Stock a0.Kerf) x_17.1 hy_21) (.cons (.tmp (hE.at (k := 0) rfl)) (.ren rfl) (.cons (.tmp (hE.at (k := 1) rfl)) (.ren rfl) (.nil))) rfl))<| .pure rfl (fun H => .put (fun E hE => .mul (lt1 rfl) (.tmp (hE.at (k := 0) rfl)) (.tmp (hE.at (k := 1) rfl))))<| .pure rfl (fun H => .put (fun E hE => .add (lt1 rfl) (.tmp (hE.at (k := 0) rfl)) (.tmp (hE.at (k := 1) rfl))))<| .read rfl (.c (.put (fun E hE => .idxOwn (lt1 rfl) (.tmp (hE.at (k := 0) rfl)) (.tmp (hE.at (k := 1) rfl)) Try.underlying22 sz3 rfl hy_22)) (.n))<| .turn rfl rfl rfl rfl rfl (.store (fun E hE => .storeP (.tmp (hE.at (k := 0) rfl)) (.tmp (hE.at (k := 1) rfl)) sz3 rfl (lt_at1 (encI_len .i64) hy_22) rfl (fun _ => rfl) (set_at1 (encI_len .i64) hl4_23 rfl)) (congrArg (fun n_ : Nat => ([(1,⟨32,false,[rW β1 a0.Lengths eW,rW β2 a0.Demand eW,iW a0.Stock,iW a0.Kerf]⟩),(2,⟨3,false,[iW a1]⟩),(3,⟨3,false,[iW (a0.Lengths.length : Int)]⟩),(5,⟨22,false,[.own 4 1 0 n_]⟩),(4,⟨3,true,l4_23.flatMap eW⟩)] : List (Nat × Blk))) (setLen hl4_23)))<| .nil _) (fun E hE => .c (DInv.at hE (k := 0) rfl rfl rfl)<| .c (DInv.at hE (k := 1) rfl rfl rfl)<| .c (DInv.at hE (k := 2) rfl rfl rfl)<| .c (DInv.at hE (k := 3) rfl rfl rfl)<| .c (DInv.at hE (k := 4) rfl rfl rfl)<| .n _) rfl ?_
   refine AWP.vc (s' := ⟨[(2,.ptr 1 0),(3,.ptr 2 0),(5,.ptr 3 0),(6,.ptr 5 0),(7,iW x_17.1)],[(1,⟨32,false,[rW β1 a0.Lengths eW,rW β2 a0.Demand eW,iW a0.Stock,iW a0.Kerf]⟩),(2,⟨3,false,[iW a1]⟩),(3,⟨3,false,[iW (a0.Lengths.length : Int)]⟩),(5,⟨22,false,[.own 4 1 0 l4_23.length]⟩),(4,⟨3,true,l4_23.flatMap eW⟩)]⟩) (VC.sub (.of rfl) (.of rfl)) ?_
   obtain ⟨t7_24,ht7_24,h⟩ := letS h
   refine AWP.region (.cons (.move (lt1 rfl) (.t rfl))<| .cons (.sub (lt1 rfl) (.t rfl) (.const _ _ _))<| .cons (.assign (lt1 rfl) (.t rfl))<| ARun.nil _ _ _) ?_
   exact endJ (t7_24,l4_23) h (by subst ht7_24; exact VC.sub (.of rfl) (.of rfl))
  ·have h := iteF hc h
   refine AWP.exit ?_
   exact endJ x_17.2 h (VC.sub (.of rfl) (.of rfl))
theorem c74 (n : Nat) (a0 : Int) {r : Bool} (h : m74 n a0 = some r) : Spec Try.prog 74 [] [iW a0] [] (bW r) [] := by
 refine Spec.of (fn := Try.f74) Try.func74 Try.ntmps74 rfl rfl (le1 rfl) (fun w0 Zs Zb T0 ι0 => ?_)
 unfold m74 at h
 refine AWP.seq ?_
 refine AWP.region (.cons (.assign (lt1 rfl) (.const _ _ _))<| ARun.nil _ _ _) ?_
 refine AWP.vc (s' := ⟨[(0,iW a0)],[]⟩) (VC.sub (.of rfl) (.n _)) ?_
 refine AWP.seq ?_
 refine AWP.region (.cons (.move (lt1 rfl) (.t rfl))<| .cons (.gtr (lt1 rfl) (.t rfl) (.const _ _ _))<| .cons (.assign (lt1 rfl) (.t rfl))<| ARun.nil _ _ _) ?_
 refine AWP.ret ?_
 obtain rfl := Option.some.inj h
 refine retJ (Res.vc (s' := ⟨[(2,bW (decide ((0 : Int) < a0)))],[]⟩) (VC.sub (.of rfl) (.n _)) ?_)
 refine Res.drop (H := []) rfl ?_
 exact Res.of rfl (.cons (.tmp rfl) (.nil)) rfl rfl
theorem c71 {β1 : Bool} (n : Nat) (a0 : (List Int)) {r : Int} (h : m71 n a0 = some r) : Spec Try.prog 71 [] [rW β1 a0 eW,.clo (.func 74) [] []] [] (iW r) [] := by
 refine Spec.of (fn := Try.f71) Try.func71 Try.ntmps71 rfl rfl (le1 rfl) (fun w0 Zs Zb T0 ι0 => ?_)
 unfold m71 at h
 refine AWP.seq ?_
 refine AWP.region (.cons (.assign (lt1 rfl) (.const _ _ _))<| ARun.nil _ _ _) ?_
 refine AWP.vc (s' := ⟨[(0,rW β1 a0 eW),(1,.clo (.func 74) [] [])],[]⟩) (VC.sub (.of rfl) (.n _)) ?_
 refine AWP.seq ?_
 refine AWP.seq ?_
 refine AWP.region (.cons (.move (lt1 rfl) (.t rfl))<| .cons (.lenRd (lt1 rfl) (.t rfl) Try.underlying22)<| .cons (.move (lt1 rfl) (.const _ _ _))<| ARun.nil _ _ _) ?_
 refine AWP.vc (s' := ⟨[(0,rW β1 a0 eW),(1,.clo (.func 74) [] []),(7,iW (a0.length : Int)),(8,iW (0 : Int))],[]⟩) (VC.sub (.of rfl) (.n _)) ?_
 refine AWP.joinB' (S := fun p_10 : Unit => ⟨[],[]⟩) h (fun p_10 h => ?_) (fun k_11 h => ?_)
 ·refine AWP.seq ?_
  refine AWP.region (.cons (.assign (lt1 rfl) (.const _ _ _))<| ARun.nil _ _ _) ?_
  refine AWP.ret ?_
  obtain rfl := Option.some.inj h
  refine retJ (Res.vc (s' := ⟨[(4,iW (-1 : Int))],[]⟩) (VC.sub (.of rfl) (.n _)) ?_)
  refine Res.drop (H := []) rfl ?_
  exact Res.of rfl (.cons (.tmp rfl) (.nil)) rfl rfl
 ·refine AWP.vc (s' := ⟨[(0,rW β1 a0 eW),(1,.clo (.func 74) [] []),(7,iW (a0.length : Int)),(8,iW (0 : Int))],[]⟩) (VC.sub (.of rfl) (.n _)) ?_
  refine AWP.loopM (S := fun x_5 : Int => ⟨[(0,rW β1 a0 eW),(1,.clo (.func 74) [] []),(7,iW (a0.length : Int)),(8,iW x_5)],[]⟩) (x := (0 : Int)) (fun nx_6 x_5 h => ?_) h
  unfold m71_L1 at h
  refine AWP.seq ?_
  refine AWP.region (.cons (.lss (lt1 rfl) (.t rfl) (.t rfl))<| ARun.nil _ _ _) ?_
  refine AWP.vc (s' := ⟨[(0,rW β1 a0 eW),(1,.clo (.func 74) [] []),(7,iW (a0.length : Int)),(8,iW x_5),(9,bW (decide (x_5 < (a0.length : Int))))],[]⟩) (VC.sub (.of rfl) (.n _)) ?_
  refine AWP.seq ?_
  refine AWP.cond (.t rfl) (fun hc => ?_) (fun hc => ?_)
  ·have h := iteT hc h
   refine AWP.skip ?_
   refine AWP.seq ?_
   refine AWP.block ?_
   refine AWP.seq ?_
   refine AWP.region (.cons (.move (lt1 rfl) (.t rfl))<| .cons (.assign (lt1 rfl) (.t rfl))<| ARun.nil _ _ _) ?_
   refine AWP.vc (s' := ⟨[(0,rW β1 a0 eW),(1,.clo (.func 74) [] []),(7,iW (a0.length : Int)),(8,iW x_5),(5,iW x_5)],[]⟩) (VC.sub (.of rfl) (.n _)) ?_
   refine AWP.seq ?_
   obtain ⟨y_7,hy_7,h⟩ := bindS h
   obtain ⟨y_8,hy_8,h⟩ := bindS h
   refine AWP.region (.cons (.move (lt1 rfl) (.t rfl))<| .cons (.move (lt1 rfl) (.t rfl))<| .cons (.move (lt1 rfl) (.t rfl))<| .cons (.indexRd (enc := eW) (lt1 rfl) (.t rfl) (.t rfl) Try.underlying22 sz3 (encI_len .i64) rfl hy_7)<| .cons (.loadR (v := iW y_7) (lt1 rfl) (.t rfl) one3 rfl)<| .cons (.keep (bw := false) (AStep.callV (us' := []) (avs := [iW y_7]) (cs' := []) (σ := sgT []) (bw := false) (lt1 rfl) (.t rfl) (c74 n y_7 hy_8) (.nil) (.cons (.t rfl) (.ren rfl) (.nil)) (.nil) (CallOk.mk' (.n) rfl) (fun _ h => by cases h)) (CallOk.mk' (.n) rfl) rfl rfl)<| ARun.nil _ _ _) ?_
   refine AWP.vc (s' := ⟨[(0,rW β1 a0 eW),(1,.clo (.func 74) [] []),(7,iW (a0.length : Int)),(8,iW x_5),(5,iW x_5),(16,bW y_8)],[]⟩) (VC.sub (.of rfl) (.n _)) ?_
   refine AWP.cond (.t rfl) (fun hc => ?_) (fun hc => ?_)
   ·have h := iteT hc h
    refine AWP.seq ?_
    refine AWP.region (.cons (.move (lt1 rfl) (.t rfl))<| .cons (.assign (lt1 rfl) (.t rfl))<| ARun.nil _ _ _) ?_
    refine AWP.ret ?_
    obtain rfl := Option.some.inj h
    refine retJ (Res.vc (s' := ⟨[(4,iW x_5)],[]⟩) (VC.sub (.of rfl) (.n _)) ?_)
    refine Res.drop (H := []) rfl ?_
    exact Res.of rfl (.cons (.tmp rfl) (.nil)) rfl rfl
   ·have h := iteF hc h
    refine AWP.skip ?_
    obtain ⟨t8_9,ht8_9,h⟩ := letS h
    refine AWP.region (.cons (.add (lt1 rfl) (.t rfl) (.const _ _ _))<| .cons (.move (lt1 rfl) (.t rfl))<| ARun.nil _ _ _) ?_
    exact endJ t8_9 h (by subst ht8_9; exact VC.sub (.of rfl) (.n _))
  ·have h := iteF hc h
   refine AWP.exit ?_
   exact endJ () h (VC.sub (.n _) (.n _))
theorem c61 {β1 : Bool} (n : Nat) (a0 : (List Int)) {r : Bool} (h : m61 n a0 = some r) : Spec Try.prog 61 [] [rW β1 a0 eW,.clo (.func 74) [] []] [] (bW r) [] := by
 refine Spec.of (fn := Try.f61) Try.func61 Try.ntmps61 rfl rfl (le1 rfl) (fun w0 Zs Zb T0 ι0 => ?_)
 unfold m61 at h
 refine AWP.seq ?_
 refine AWP.region (.cons (.assign (lt1 rfl) (.const _ _ _))<| ARun.nil _ _ _) ?_
 refine AWP.vc (s' := ⟨[(0,rW β1 a0 eW),(1,.clo (.func 74) [] [])],[]⟩) (VC.sub (.of rfl) (.n _)) ?_
 refine AWP.seq ?_
 obtain ⟨y_1,hy_1,h⟩ := bindS h
 refine AWP.region (.cons (.move (lt1 rfl) (.t rfl))<| .cons (.move (lt1 rfl) (.t rfl))<| .cons (.call0 (bw := false) (lt1 rfl) (c71 (β1 := β1) n a0 hy_1) (.cons (.t rfl) (.ren rfl) (.cons (.t rfl) (.ren rfl) (.nil))) rfl)<| .cons (.geq (lt1 rfl) (.t rfl) (.const _ _ _))<| .cons (.assign (lt1 rfl) (.t rfl))<| ARun.nil _ _ _) ?_
 refine AWP.ret ?_
 obtain rfl := Option.some.inj h
 refine retJ (Res.vc (s' := ⟨[(4,bW (decide ((0 : Int) ≤ y_1)))],[]⟩) (VC.sub (.of rfl) (.n _)) ?_)
 refine Res.drop (H := []) rfl ?_
 exact Res.of rfl (.cons (.tmp rfl) (.nil)) rfl rfl
theorem c53 {β1 : Bool} (n : Nat) (a0 : (List Int)) {r : (List Int)} (h : m53 n a0 = some r) : Spec Try.prog 53 [] [rW β1 a0 eW] [] (rW false r eW) [] := by
 refine Spec.of (fn := Try.f53) Try.func53 Try.ntmps53 rfl rfl (le1 rfl) (fun w0 Zs Zb T0 ι0 => ?_)
 unfold m53 at h
 refine AWP.seq ?_
 refine AWP.region (.cons (.assign (lt1 rfl) (.const _ _ _))<| ARun.nil _ _ _) ?_
 refine AWP.vc (s' := ⟨[(0,rW β1 a0 eW)],[]⟩) (VC.sub (.of rfl) (.n _)) ?_
 refine AWP.seq ?_
 refine AWP.seq ?_
 refine AWP.regionE (S := fun q_1 => ⟨[(0,rW β1 a0 eW),(4,bW (decide (a0.length = 0 ∧ q_1 = 0)))],[]⟩) (.cons (.move (lt1 rfl) (.t rfl))<| .consE (AStepE.eqNil0 (lt1 rfl) (.t rfl) Try.underlying22)<| fun q_1 => ARunE.nilV q_1 (VC.sub (.of rfl) (.n _))) (fun q_1 => ?_)
 refine AWP.cond (.t rfl) (fun hc => ?_) (fun hc => ?_)
 ·have h := cloneNil hc h
  refine AWP.seq ?_
  refine AWP.region (.cons (.assign (lt1 rfl) (.const _ _ _))<| ARun.nil _ _ _) ?_
  refine AWP.ret ?_
  obtain rfl := Option.some.inj h
  refine retJ (Res.vc (s' := ⟨[(2,rW false ([] : List Int) eW)],[]⟩) (VC.trans (VC.nilRd (d := 2) false rfl) (VC.sub (.of rfl) (.n _))) ?_)
  refine Res.drop (H := []) rfl ?_
  exact Res.of rfl (.cons (.tmp rfl) (.nil)) rfl rfl
 ·refine AWP.skip ?_
  refine AWP.seq ?_
  obtain ⟨l1_2,hl1_2,h⟩ := bindS h
  refine AWP.region (.cons (.buildSlice (t := 1) (out := ([] : List Int).flatMap eW) (lt1 rfl) (nm rfl) (.nil) Try.underlying22 zero3 el3 (by decide) (by decide) rfl (still_all (encI_still .i64) _))<| .cons (.move (lt1 rfl) (.t rfl))<| .cons (.app (enc := eW) (lt1 rfl) (nm rfl) (.t rfl) (Src.rd (.t rfl) (flatMap_length (encI_len .i64) _) (one_all (encI_one .i64) _) (.inr (scal_all (encI_scal .i64) _))) Try.underlying22 ⟨_,Try.underlying22,by intro k hk; cases hk⟩ el3 rfl (encI_len .i64) rfl rfl (by decide) hl1_2)<| .cons (.assign (lt1 rfl) (.t rfl))<| ARun.nil _ _ _) ?_
  refine AWP.ret ?_
  obtain rfl := Option.some.inj h
  refine retJ (Res.vc (s' := ⟨[(2,rW false l1_2 eW)],[]⟩) (VC.trans (VC.frz (d := 2) (t := 1) rfl rfl (encI_len .i64)) (VC.sub (.of rfl) (.n _))) ?_)
  refine Res.drop (H := []) rfl ?_
  exact Res.of rfl (.cons (.tmp rfl) (.nil)) rfl rfl
theorem y73F (n l : Nat) : ∀ (f : Nat) {β1 : Bool} {β2 : Bool} (a0 : Int) (a1 : Int) (a2 : Int) (a3_b0_b : (List Int)) (a4_b0 : Int) (a5_b0_b : (List Int)) (a7_b0 : Int) (a8_b0 : (List Int)) (a8_b1 : (List Int)) (a8_b2 : Int) (a8_b3 : Int) {ys : List (List Int)} {x : (List Int)},m73F n f a0 a1 a2 a3_b0_b a4_b0 a5_b0_b a7_b0 a8_b0 a8_b1 a8_b2 a8_b3 = some (ys,x) → YSpec Try.prog l 73 [1,2,3,4,5,6,7,8,9] [iW a0,iW a1,iW a2,.ptr 1 0,.ptr 3 0,.ptr 4 0,.ptr 6 0,.ptr 7 0,.ptr 8 0,.ptr 9 0] [(1,⟨22,false,[.own 2 1 0 a3_b0_b.length]⟩),(2,⟨3,true,a3_b0_b.flatMap eW⟩),(3,⟨3,false,[iW a4_b0]⟩),(4,⟨22,false,[.own 5 1 0 a5_b0_b.length]⟩),(5,⟨3,true,a5_b0_b.flatMap eW⟩),(6,⟨96,false,[.sc (.func (.yield l) #[] #[])]⟩),(7,⟨3,false,[iW a7_b0]⟩),(8,⟨32,false,[rW β1 a8_b0 eW,rW β2 a8_b1 eW,iW a8_b2,iW a8_b3]⟩),(9,⟨101,false,[.clo (.func 73) [] [.ptr 1 0,.ptr 3 0,.ptr 4 0,.ptr 6 0,.ptr 7 0,.ptr 8 0,.ptr 9 0]]⟩)] (fun e_ : (List Int) => [rW false e_ eW]) ys (fun x_ : (List Int) => [(1,⟨22,false,[.own 2 1 0 a3_b0_b.length]⟩),(2,⟨3,true,a3_b0_b.flatMap eW⟩),(3,⟨3,false,[iW a4_b0]⟩),(4,⟨22,false,[.own 5 1 0 x_.length]⟩),(5,⟨3,true,x_.flatMap eW⟩),(6,⟨96,false,[.sc (.func (.yield l) #[] #[])]⟩),(7,⟨3,false,[iW a7_b0]⟩),(8,⟨32,false,[rW β1 a8_b0 eW,rW β2 a8_b1 eW,iW a8_b2,iW a8_b3]⟩),(9,⟨101,false,[.clo (.func 73) [] [.ptr 1 0,.ptr 3 0,.ptr 4 0,.ptr 6 0,.ptr 7 0,.ptr 8 0,.ptr 9 0]]⟩)]) x := by
 intro f
 induction f with
 | zero =>
  intro β1 β2 a0 a1 a2 a3_b0_b a4_b0 a5_b0_b a7_b0 a8_b0 a8_b1 a8_b2 a8_b3 ys x h
  cases (show (none : Option (List (List Int) × (List Int))) = some (ys,x) from h)
 | succ f ih =>
 intro β1 β2 a0 a1 a2 a3_b0_b a4_b0 a5_b0_b a7_b0 a8_b0 a8_b1 a8_b2 a8_b3 ys x h
 replace h : m73B n (m73F n f) a0 a1 a2 a3_b0_b a4_b0 a5_b0_b a7_b0 a8_b0 a8_b1 a8_b2 a8_b3 = some (ys,x) := h
 generalize m73F n f = rc_0 at h ih
 refine YSpec.of (fn := Try.f73) Try.func73 Try.ntmps73 rfl rfl (le1 rfl) (fun ι0 xs tail Zs Zb J Jx hJ hJx hR => ?_)
 unfold m73B at h
 refine AWPF.seq ?_
 refine AWPF.of fun d_ => AWP.region (.cons (.assign (lt1 rfl) (.const _ _ _))<| ARun.nil _ _ _) ?_
 refine AWPF.vc (s' := ⟨[(0,iW a0),(1,iW a1),(2,iW a2),(3,.ptr 1 0),(4,.ptr 3 0),(5,.ptr 4 0),(6,.ptr 6 0),(7,.ptr 7 0),(8,.ptr 8 0),(9,.ptr 9 0)],[(1,⟨22,false,[.own 2 1 0 a3_b0_b.length]⟩),(2,⟨3,true,a3_b0_b.flatMap eW⟩),(3,⟨3,false,[iW a4_b0]⟩),(4,⟨22,false,[.own 5 1 0 a5_b0_b.length]⟩),(5,⟨3,true,a5_b0_b.flatMap eW⟩),(6,⟨96,false,[.sc (.func (.yield l) #[] #[])]⟩),(7,⟨3,false,[iW a7_b0]⟩),(8,⟨32,false,[rW β1 a8_b0 eW,rW β2 a8_b1 eW,iW a8_b2,iW a8_b3]⟩),(9,⟨101,false,[.clo (.func 73) [] [.ptr 1 0,.ptr 3 0,.ptr 4 0,.ptr 6 0,.ptr 7 0,.ptr 8 0,.ptr 9 0]]⟩)]⟩) (fun d_ => VC.sub (.of rfl) (.of rfl)) ?_
 refine AWPF.seq ?_
 refine AWPF.seq ?_
 obtain ⟨y_1,hy_1,h⟩ := bindS h
 refine AWPF.of fun d_ => AWP.region (.cons (.move (lt1 rfl) (.t rfl))<| .cons (.loadP (lt1 rfl) (.t rfl) one22 rfl rfl rfl)<| .cons (.move (lt1 rfl) (.t rfl))<| .cons (.idxOwn (lt1 rfl) (.t rfl) (.t rfl) Try.underlying22 sz3 rfl hy_1)<| .cons (.loadP (lt1 rfl) (.t rfl) one3 rfl (cell_at1 (encI_len .i64) hy_1) rfl)<| .cons (.sub (lt1 rfl) (.t rfl) (.t rfl))<| .cons (.move (lt1 rfl) (.t rfl))<| .cons (.geq (lt1 rfl) (.t rfl) (.t rfl))<| ARun.nil _ _ _) ?_
 refine AWPF.vc (s' := ⟨[(0,iW a0),(1,iW a1),(2,iW a2),(4,.ptr 3 0),(5,.ptr 4 0),(6,.ptr 6 0),(7,.ptr 7 0),(8,.ptr 8 0),(9,.ptr 9 0),(25,bW (decide (a2 ≤ (IntKind.wrap .i64 (a1 - y_1)))))],[(1,⟨22,false,[.own 2 1 0 a3_b0_b.length]⟩),(2,⟨3,true,a3_b0_b.flatMap eW⟩),(3,⟨3,false,[iW a4_b0]⟩),(4,⟨22,false,[.own 5 1 0 a5_b0_b.length]⟩),(5,⟨3,true,a5_b0_b.flatMap eW⟩),(6,⟨96,false,[.sc (.func (.yield l) #[] #[])]⟩),(7,⟨3,false,[iW a7_b0]⟩),(8,⟨32,false,[rW β1 a8_b0 eW,rW β2 a8_b1 eW,iW a8_b2,iW a8_b3]⟩),(9,⟨101,false,[.clo (.func 73) [] [.ptr 1 0,.ptr 3 0,.ptr 4 0,.ptr 6 0,.ptr 7 0,.ptr 8 0,.ptr 9 0]]⟩)]⟩) (fun d_ => VC.sub (.of rfl) (.of rfl)) ?_
 refine AWPF.cond (fun d_ => .tmp rfl) (fun hc => ?_) (fun hc => ?_)
 ·have h := iteT hc h
  refine AWPF.seq ?_
  refine AWPF.of fun d_ => AWP.region (.cons (.assign (lt1 rfl) (.const _ _ _))<| ARun.nil _ _ _) ?_
  refine AWPF.ret ?_
  cases h
  refine ⟨.inl rfl,.inl ⟨_,rfl,fun w0 Zs Zb T0 => Res.vc (s' := ⟨[(13,bW true)],[(1,⟨22,false,[.own 2 1 0 a3_b0_b.length]⟩),(2,⟨3,true,a3_b0_b.flatMap eW⟩),(3,⟨3,false,[iW a4_b0]⟩),(4,⟨22,false,[.own 5 1 0 a5_b0_b.length]⟩),(5,⟨3,true,a5_b0_b.flatMap eW⟩),(6,⟨96,false,[.sc (.func (.yield l) #[] #[])]⟩),(7,⟨3,false,[iW a7_b0]⟩),(8,⟨32,false,[rW β1 a8_b0 eW,rW β2 a8_b1 eW,iW a8_b2,iW a8_b3]⟩),(9,⟨101,false,[.clo (.func 73) [] [.ptr 1 0,.ptr 3 0,.ptr 4 0,.ptr 6 0,.ptr 7 0,.ptr 8 0,.ptr 9 0]]⟩)]⟩) (VC.sub (.of rfl) (.of rfl)) ?_⟩⟩
  refine Res.sub (H := [(1,⟨22,false,[.own 2 1 0 a3_b0_b.length]⟩),(2,⟨3,true,a3_b0_b.flatMap eW⟩),(3,⟨3,false,[iW a4_b0]⟩),(4,⟨22,false,[.own 5 1 0 a5_b0_b.length]⟩),(5,⟨3,true,a5_b0_b.flatMap eW⟩),(6,⟨96,false,[.sc (.func (.yield l) #[] #[])]⟩),(7,⟨3,false,[iW a7_b0]⟩),(8,⟨32,false,[rW β1 a8_b0 eW,rW β2 a8_b1 eW,iW a8_b2,iW a8_b3]⟩),(9,⟨101,false,[.clo (.func 73) [] [.ptr 1 0,.ptr 3 0,.ptr 4 0,.ptr 6 0,.ptr 7 0,.ptr 8 0,.ptr 9 0]]⟩)]) (.of rfl) ?_
  exact Res.of rfl (.cons (.tmp rfl) .nil) rfl rfl
 ·have h := iteF hc h
  refine AWPF.skip ?_
  refine AWPF.seq ?_
  refine AWPF.seq ?_
  refine AWPF.of fun d_ => AWP.region (.cons (.move (lt1 rfl) (.t rfl))<| .cons (.loadP (lt1 rfl) (.t rfl) one3 rfl rfl rfl)<| .cons (.eql (lt1 rfl) (.t rfl) (.t rfl))<| ARun.nil _ _ _) ?_
  refine AWPF.vc (s' := ⟨[(0,iW a0),(1,iW a1),(2,iW a2),(5,.ptr 4 0),(6,.ptr 6 0),(7,.ptr 7 0),(8,.ptr 8 0),(9,.ptr 9 0),(28,bW (decide (a0 = a4_b0)))],[(1,⟨22,false,[.own 2 1 0 a3_b0_b.length]⟩),(2,⟨3,true,a3_b0_b.flatMap eW⟩),(3,⟨3,false,[iW a4_b0]⟩),(4,⟨22,false,[.own 5 1 0 a5_b0_b.length]⟩),(5,⟨3,true,a5_b0_b.flatMap eW⟩),(6,⟨96,false,[.sc (.func (.yield l) #[] #[])]⟩),(7,⟨3,false,[iW a7_b0]⟩),(8,⟨32,false,[rW β1 a8_b0 eW,rW β2 a8_b1 eW,iW a8_b2,iW a8_b3]⟩),(9,⟨101,false,[.clo (.func 73) [] [.ptr 1 0,.ptr 3 0,.ptr 4 0,.ptr 6 0,.ptr 7 0,.ptr 8 0,.ptr 9 0]]⟩)]⟩) (fun d_ => VC.sub (.of rfl) (.of rfl)) ?_
  refine AWPF.cond (fun d_ => .tmp rfl) (fun hc => ?_) (fun hc => ?_)
  ·have h := iteT hc h
   refine AWPF.seq ?_
   obtain ⟨y_2,hy_2,h⟩ := bindS h
   refine AWPF.of fun d_ => AWP.region (.cons (.loadP (lt1 rfl) (.t rfl) one22 rfl rfl rfl)<| .cons (.call0 (bw := true) (lt1 rfl) (c61 (β1 := true) n a5_b0_b hy_2) (.cons (.t rfl) (.lendRow rfl rfl (encI_len .i64) rfl) (.cons (.func _ _ _) (.ren rfl) (.nil))) rfl)<| .cons (.not (lt1 rfl) (.t rfl))<| .cons (.assign (lt1 rfl) (.t rfl))<| ARun.nil _ _ _) ?_
   refine AWPF.vc (s' := ⟨[(5,.ptr 4 0),(6,.ptr 6 0),(14,bW (!y_2))],[(1,⟨22,false,[.own 2 1 0 a3_b0_b.length]⟩),(2,⟨3,true,a3_b0_b.flatMap eW⟩),(3,⟨3,false,[iW a4_b0]⟩),(4,⟨22,false,[.own 5 1 0 a5_b0_b.length]⟩),(5,⟨3,true,a5_b0_b.flatMap eW⟩),(6,⟨96,false,[.sc (.func (.yield l) #[] #[])]⟩),(7,⟨3,false,[iW a7_b0]⟩),(8,⟨32,false,[rW β1 a8_b0 eW,rW β2 a8_b1 eW,iW a8_b2,iW a8_b3]⟩),(9,⟨101,false,[.clo (.func 73) [] [.ptr 1 0,.ptr 3 0,.ptr 4 0,.ptr 6 0,.ptr 7 0,.ptr 8 0,.ptr 9 0]]⟩)]⟩) (fun d_ => VC.sub (.of rfl) (.of rfl)) ?_
   refine AWPF.seq ?_
   obtain ⟨y_3,hy_3,h⟩ := bindS h
   obtain ⟨q_5,h,hq_4⟩ := yldCS h
   refine AWPF.drawE (b := 5) mixed (Rr := [[],[0],[0,1],[0,1],[0,1,3],[0,1,2,3,4],[0,1,2,3,4,5],[0,1,2,3,4,5,6]]) (by kernel_rfl) (fun d_ => AWP.drawAny (s' := ⟨[(33,bW (!y_2)),(34,.gd (!(!y_2)) (.sc (.func (.yield l) #[] #[]))),(36,.gd (!(!y_2)) (rW false y_3 eW))],[(1,⟨22,false,[.own 2 1 0 a3_b0_b.length]⟩),(2,⟨3,true,a3_b0_b.flatMap eW⟩),(3,⟨3,false,[iW a4_b0]⟩),(4,⟨22,false,[.own 5 1 0 a5_b0_b.length]⟩),(5,⟨3,true,a5_b0_b.flatMap eW⟩),(6,⟨96,false,[.sc (.func (.yield l) #[] #[])]⟩),(7,⟨3,false,[iW a7_b0]⟩),(8,⟨32,false,[rW β1 a8_b0 eW,rW β2 a8_b1 eW,iW a8_b2,iW a8_b3]⟩),(9,⟨101,false,[.clo (.func 73) [] [.ptr 1 0,.ptr 3 0,.ptr 4 0,.ptr 6 0,.ptr 7 0,.ptr 8 0,.ptr 9 0]]⟩)]⟩) [⟨5,.ptr 4 0,none,[]⟩,⟨6,.ptr 6 0,none,[]⟩,⟨14,bW (!y_2),none,[]⟩,⟨32,bW (!y_2),some 0,[]⟩,⟨33,bW (!y_2),some 1,[]⟩,⟨34,.gd (!(!y_2)) (.sc (.func (.yield l) #[] #[])),some 2,[]⟩,⟨35,.gd (!(!y_2)) (.own 5 1 0 a5_b0_b.length),some 3,[]⟩,⟨36,.gd (!(!y_2)) (rW false y_3 eW),some 4,[]⟩] [⟨[2],0,0,some (32,bW (!y_2)),[]⟩,⟨[3],0,0,some (33,bW (!y_2)),[]⟩,⟨[4,1],0,0,some (34,.gd (!(!y_2)) (.sc (.func (.yield l) #[] #[]))),[]⟩,⟨[4,0],0,0,some (35,.gd (!(!y_2)) (.own 5 1 0 a5_b0_b.length)),[]⟩,⟨[4,6],0,0,some (36,.gd (!(!y_2)) (rW false y_3 eW)),[]⟩] [] [[(1,⟨22,false,[.own 2 1 0 a3_b0_b.length]⟩),(2,⟨3,true,a3_b0_b.flatMap eW⟩),(3,⟨3,false,[iW a4_b0]⟩),(4,⟨22,false,[.own 5 1 0 a5_b0_b.length]⟩),(5,⟨3,true,a5_b0_b.flatMap eW⟩),(6,⟨96,false,[.sc (.func (.yield l) #[] #[])]⟩),(7,⟨3,false,[iW a7_b0]⟩),(8,⟨32,false,[rW β1 a8_b0 eW,rW β2 a8_b1 eW,iW a8_b2,iW a8_b3]⟩),(9,⟨101,false,[.clo (.func 73) [] [.ptr 1 0,.ptr 3 0,.ptr 4 0,.ptr 6 0,.ptr 7 0,.ptr 8 0,.ptr 9 0]]⟩)]] [[],[0],[0,1],[0,1],[0,1,3]] (by kernel_rfl) (by kernel_rfl) (BornL.ok (.o<| .o<| .o<| .b rfl rfl<| .b rfl rfl<| .b rfl rfl<| .b rfl rfl<| .b rfl rfl<| .n)) (BaseL.ok (.o rfl<| .o rfl<| .o rfl<| .b<| .b<| .b<| .b<| .b<| .n)) rfl (by decide) (allLt rfl) (.pure rfl (fun H => .put (fun E hE => .move (lt1 rfl) (.tmp (hE.at (k := 0) rfl))))<| .pure rfl (fun H => .put (fun E hE => .move (lt1 rfl) (.tmp (hE.at (k := 0) rfl))))<| .read rfl (.c (.gput (b := (!y_2)) (want := false) (j := 1) (dj := 33) rfl (lt1 rfl) (lt1 rfl) (fun E hE => hE.at (k := 0) rfl) (fun hg E hE => .loadP (lt1 rfl) (.tmp (hE.at (k := 1) rfl)) one96 rfl rfl rfl)) .n)<| .read rfl (.c (.gput (b := (!y_2)) (want := false) (j := 1) (dj := 33) rfl (lt1 rfl) (lt1 rfl) (fun E hE => hE.at (k := 0) rfl) (fun hg E hE => .loadP (lt1 rfl) (.tmp (hE.at (k := 1) rfl)) one22 rfl rfl rfl)) .n)<| .read rfl (.c (.gput (b := (!y_2)) (want := false) (j := 1) (dj := 33) rfl (lt1 rfl) (lt1 rfl) (fun E hE => hE.at (k := 0) rfl) (fun hg E hE => .call0 (bw := true) (lt1 rfl) (c53 (β1 := true) n a5_b0_b (gdB hy_3 hg)) (.cons (.gd hg (.tmp (hE.at (k := 1) rfl))) (.lendRow rfl rfl (encI_len .i64) rfl) (.nil)) rfl)) .n)<| .nil _) (fun E hE => .c (DInv.at hE (k := 4) rfl rfl rfl)<| .c (DInv.at hE (k := 5) rfl rfl rfl)<| .c (DInv.at hE (k := 7) rfl rfl rfl)<| .n _) rfl ⟨rfl,rfl⟩) (.yG (e := (!y_2)) hJ hJx hR hq_4 (fun d_ _ _ _ r_ => wanted1 r_ rfl (lt1 rfl) rfl) (lt1 rfl) (fun he d_ => (fun hg => .gd hg (.t rfl)) (notT he)) (fun he d_ => (fun hg => .cons (.gd hg (.t rfl)) rfl (.nil)) (notT he)) (fun b_6 d_ =>  .cons (.pickOr (lt1 rfl) (.t rfl) (.const _ _ _) (.t rfl))<| .cons (.assign (lt1 rfl) (.t rfl))<| ARun.nil _ _ _)) ?_ (fun he_ => ?_)
   ·refine AWPF.ret ?_
    cases h
    refine ⟨.inl rfl,.inl ⟨_,rfl,fun w0 Zs Zb T0 => Res.vc (s' := ⟨[(13,bW true)],[(1,⟨22,false,[.own 2 1 0 a3_b0_b.length]⟩),(2,⟨3,true,a3_b0_b.flatMap eW⟩),(3,⟨3,false,[iW a4_b0]⟩),(4,⟨22,false,[.own 5 1 0 a5_b0_b.length]⟩),(5,⟨3,true,a5_b0_b.flatMap eW⟩),(6,⟨96,false,[.sc (.func (.yield l) #[] #[])]⟩),(7,⟨3,false,[iW a7_b0]⟩),(8,⟨32,false,[rW β1 a8_b0 eW,rW β2 a8_b1 eW,iW a8_b2,iW a8_b3]⟩),(9,⟨101,false,[.clo (.func 73) [] [.ptr 1 0,.ptr 3 0,.ptr 4 0,.ptr 6 0,.ptr 7 0,.ptr 8 0,.ptr 9 0]]⟩)]⟩) (VC.sub (.c (congrArg (fun b_ : Bool => some (AV.sc (.bool b_))) (Bool.or_true (!y_2)))<| .n _) (.of rfl)) ?_⟩⟩
    refine Res.sub (H := [(1,⟨22,false,[.own 2 1 0 a3_b0_b.length]⟩),(2,⟨3,true,a3_b0_b.flatMap eW⟩),(3,⟨3,false,[iW a4_b0]⟩),(4,⟨22,false,[.own 5 1 0 a5_b0_b.length]⟩),(5,⟨3,true,a5_b0_b.flatMap eW⟩),(6,⟨96,false,[.sc (.func (.yield l) #[] #[])]⟩),(7,⟨3,false,[iW a7_b0]⟩),(8,⟨32,false,[rW β1 a8_b0 eW,rW β2 a8_b1 eW,iW a8_b2,iW a8_b3]⟩),(9,⟨101,false,[.clo (.func 73) [] [.ptr 1 0,.ptr 3 0,.ptr 4 0,.ptr 6 0,.ptr 7 0,.ptr 8 0,.ptr 9 0]]⟩)]) (.of rfl) ?_
    exact Res.of rfl (.cons (.tmp rfl) .nil) rfl rfl
   ·refine AWPF.ret ?_
    refine ⟨.inl rfl,.inr ⟨rfl,a5_b0_b,fun w0 Zs Zb T0 => Res.vc (s' := ⟨[(13,bW false)],[(1,⟨22,false,[.own 2 1 0 a3_b0_b.length]⟩),(2,⟨3,true,a3_b0_b.flatMap eW⟩),(3,⟨3,false,[iW a4_b0]⟩),(4,⟨22,false,[.own 5 1 0 a5_b0_b.length]⟩),(5,⟨3,true,a5_b0_b.flatMap eW⟩),(6,⟨96,false,[.sc (.func (.yield l) #[] #[])]⟩),(7,⟨3,false,[iW a7_b0]⟩),(8,⟨32,false,[rW β1 a8_b0 eW,rW β2 a8_b1 eW,iW a8_b2,iW a8_b3]⟩),(9,⟨101,false,[.clo (.func 73) [] [.ptr 1 0,.ptr 3 0,.ptr 4 0,.ptr 6 0,.ptr 7 0,.ptr 8 0,.ptr 9 0]]⟩)]⟩) (VC.sub (.c (congrArg (fun b_ : Bool => some (AV.sc (.bool b_))) (orFF he_))<| .n _) (.of rfl)) ?_⟩⟩
    refine Res.sub (H := [(1,⟨22,false,[.own 2 1 0 a3_b0_b.length]⟩),(2,⟨3,true,a3_b0_b.flatMap eW⟩),(3,⟨3,false,[iW a4_b0]⟩),(4,⟨22,false,[.own 5 1 0 a5_b0_b.length]⟩),(5,⟨3,true,a5_b0_b.flatMap eW⟩),(6,⟨96,false,[.sc (.func (.yield l) #[] #[])]⟩),(7,⟨3,false,[iW a7_b0]⟩),(8,⟨32,false,[rW β1 a8_b0 eW,rW β2 a8_b1 eW,iW a8_b2,iW a8_b3]⟩),(9,⟨101,false,[.clo (.func 73) [] [.ptr 1 0,.ptr 3 0,.ptr 4 0,.ptr 6 0,.ptr 7 0,.ptr 8 0,.ptr 9 0]]⟩)]) (.of rfl) ?_
    exact Res.of rfl (.cons (.tmp rfl) .nil) rfl rfl
  ·have h := iteF hc h
   refine AWPF.skip ?_
   refine AWPF.seq ?_
   refine AWPF.of fun d_ => AWP.region (.cons (.assign (lt1 rfl) (.const _ _ _))<| ARun.nil _ _ _) ?_
   refine AWPF.vc (s' := ⟨[(0,iW a0),(1,iW a1),(2,iW a2),(5,.ptr 4 0),(7,.ptr 7 0),(8,.ptr 8 0),(9,.ptr 9 0),(15,iW (0 : Int))],[(1,⟨22,false,[.own 2 1 0 a3_b0_b.length]⟩),(2,⟨3,true,a3_b0_b.flatMap eW⟩),(3,⟨3,false,[iW a4_b0]⟩),(4,⟨22,false,[.own 5 1 0 a5_b0_b.length]⟩),(5,⟨3,true,a5_b0_b.flatMap eW⟩),(6,⟨96,false,[.sc (.func (.yield l) #[] #[])]⟩),(7,⟨3,false,[iW a7_b0]⟩),(8,⟨32,false,[rW β1 a8_b0 eW,rW β2 a8_b1 eW,iW a8_b2,iW a8_b3]⟩),(9,⟨101,false,[.clo (.func 73) [] [.ptr 1 0,.ptr 3 0,.ptr 4 0,.ptr 6 0,.ptr 7 0,.ptr 8 0,.ptr 9 0]]⟩)]⟩) (fun d_ => VC.sub (.of rfl) (.of rfl)) ?_
   refine AWPF.seq ?_
   refine AWPF.seq ?_
   refine AWPF.of fun d_ => AWP.region (.cons (.move (lt1 rfl) (.t rfl))<| .cons (.loadP (lt1 rfl) (.t rfl) one3 rfl rfl rfl)<| .cons (.eql (lt1 rfl) (.t rfl) (.t rfl))<| ARun.nil _ _ _) ?_
   refine AWPF.vc (s' := ⟨[(0,iW a0),(1,iW a1),(2,iW a2),(5,.ptr 4 0),(8,.ptr 8 0),(9,.ptr 9 0),(15,iW (0 : Int)),(41,bW (decide (a0 = a7_b0)))],[(1,⟨22,false,[.own 2 1 0 a3_b0_b.length]⟩),(2,⟨3,true,a3_b0_b.flatMap eW⟩),(3,⟨3,false,[iW a4_b0]⟩),(4,⟨22,false,[.own 5 1 0 a5_b0_b.length]⟩),(5,⟨3,true,a5_b0_b.flatMap eW⟩),(6,⟨96,false,[.sc (.func (.yield l) #[] #[])]⟩),(7,⟨3,false,[iW a7_b0]⟩),(8,⟨32,false,[rW β1 a8_b0 eW,rW β2 a8_b1 eW,iW a8_b2,iW a8_b3]⟩),(9,⟨101,false,[.clo (.func 73) [] [.ptr 1 0,.ptr 3 0,.ptr 4 0,.ptr 6 0,.ptr 7 0,.ptr 8 0,.ptr 9 0]]⟩)]⟩) (fun d_ => VC.sub (.of rfl) (.of rfl)) ?_
   refine AWPF.join' (S := fun p_7 : Int => ⟨[(0,iW a0),(1,iW a1),(2,iW a2),(5,.ptr 4 0),(8,.ptr 8 0),(9,.ptr 9 0),(15,iW p_7)],[(1,⟨22,false,[.own 2 1 0 a3_b0_b.length]⟩),(2,⟨3,true,a3_b0_b.flatMap eW⟩),(3,⟨3,false,[iW a4_b0]⟩),(4,⟨22,false,[.own 5 1 0 a5_b0_b.length]⟩),(5,⟨3,true,a5_b0_b.flatMap eW⟩),(6,⟨96,false,[.sc (.func (.yield l) #[] #[])]⟩),(7,⟨3,false,[iW a7_b0]⟩),(8,⟨32,false,[rW β1 a8_b0 eW,rW β2 a8_b1 eW,iW a8_b2,iW a8_b3]⟩),(9,⟨101,false,[.clo (.func 73) [] [.ptr 1 0,.ptr 3 0,.ptr 4 0,.ptr 6 0,.ptr 7 0,.ptr 8 0,.ptr 9 0]]⟩)]⟩) h (fun p_7 r h => ?_) (fun k_8 h => ?_)
   ·refine AWPF.seq ?_
    refine AWPF.seq ?_
    obtain ⟨y_9,hy_9,h⟩ := bindS h
    obtain ⟨y_10,hy_10,h⟩ := bindS h
    obtain ⟨ha_11,h⟩ := asrtS h
    obtain ⟨t16_12,ht16_12,h⟩ := letS h
    refine AWPF.of fun d_ => AWP.draw (s' := ⟨[(0,iW a0),(1,iW a1),(2,iW a2),(5,.ptr 4 0),(8,.ptr 8 0),(9,.ptr 9 0),(15,iW p_7),(16,iW (if (IntKind.wrap .i64 (a1.tdiv y_10)) < y_9 then (IntKind.wrap .i64 (a1.tdiv y_10)) else y_9))],[(1,⟨22,false,[.own 2 1 0 a3_b0_b.length]⟩),(2,⟨3,true,a3_b0_b.flatMap eW⟩),(3,⟨3,false,[iW a4_b0]⟩),(4,⟨22,false,[.own 5 1 0 a5_b0_b.length]⟩),(5,⟨3,true,a5_b0_b.flatMap eW⟩),(6,⟨96,false,[.sc (.func (.yield l) #[] #[])]⟩),(7,⟨3,false,[iW a7_b0]⟩),(8,⟨32,false,[rW β1 a8_b0 eW,rW β2 a8_b1 eW,iW a8_b2,iW a8_b3]⟩),(9,⟨101,false,[.clo (.func 73) [] [.ptr 1 0,.ptr 3 0,.ptr 4 0,.ptr 6 0,.ptr 7 0,.ptr 8 0,.ptr 9 0]]⟩)]⟩) mixed [⟨0,iW a0,none,[]⟩,⟨1,iW a1,none,[]⟩,⟨2,iW a2,none,[]⟩,⟨5,.ptr 4 0,none,[]⟩,⟨8,.ptr 8 0,none,[]⟩,⟨9,.ptr 9 0,none,[]⟩,⟨15,iW p_7,none,[]⟩,⟨42,.ptr 8 (0 + 1),some 0,[]⟩,⟨43,rW β2 a8_b1 eW,some 1,[]⟩,⟨44,iW a0,some 2,[]⟩,⟨45,.rptr β2 [iW y_9],some 3,[]⟩,⟨46,iW y_9,some 4,[]⟩,⟨47,iW a1,some 5,[]⟩,⟨48,.agg [rW β1 a8_b0 eW,rW β2 a8_b1 eW,iW a8_b2,iW a8_b3],some 6,[]⟩,⟨49,iW a0,some 7,[]⟩,⟨50,iW y_10,some 8,[]⟩,⟨51,iW (IntKind.wrap .i64 (a1.tdiv y_10)),some 9,[]⟩,⟨52,iW (if (IntKind.wrap .i64 (a1.tdiv y_10)) < y_9 then (IntKind.wrap .i64 (a1.tdiv y_10)) else y_9),some 10,[]⟩,⟨16,iW (if (IntKind.wrap .i64 (a1.tdiv y_10)) < y_9 then (IntKind.wrap .i64 (a1.tdiv y_10)) else y_9),some 11,[]⟩] [⟨[4],0,0,some (42,.ptr 8 (0 + 1)),[]⟩,⟨[7],0,0,some (43,rW β2 a8_b1 eW),[]⟩,⟨[0],0,0,some (44,iW a0),[]⟩,⟨[8,9],0,0,some (45,.rptr β2 [iW y_9]),[]⟩,⟨[10],0,0,some (46,iW y_9),[]⟩,⟨[1],0,0,some (47,iW a1),[]⟩,⟨[4],0,0,some (48,.agg [rW β1 a8_b0 eW,rW β2 a8_b1 eW,iW a8_b2,iW a8_b3]),[]⟩,⟨[0],0,0,some (49,iW a0),[]⟩,⟨[13,14],0,0,some (50,iW y_10),[]⟩,⟨[12,15],0,0,some (51,iW (IntKind.wrap .i64 (a1.tdiv y_10))),[]⟩,⟨[11,16],0,0,some (52,iW (if (IntKind.wrap .i64 (a1.tdiv y_10)) < y_9 then (IntKind.wrap .i64 (a1.tdiv y_10)) else y_9)),[]⟩,⟨[17],0,0,some (16,iW (if (IntKind.wrap .i64 (a1.tdiv y_10)) < y_9 then (IntKind.wrap .i64 (a1.tdiv y_10)) else y_9)),[]⟩] [] [[(1,⟨22,false,[.own 2 1 0 a3_b0_b.length]⟩),(2,⟨3,true,a3_b0_b.flatMap eW⟩),(3,⟨3,false,[iW a4_b0]⟩),(4,⟨22,false,[.own 5 1 0 a5_b0_b.length]⟩),(5,⟨3,true,a5_b0_b.flatMap eW⟩),(6,⟨96,false,[.sc (.func (.yield l) #[] #[])]⟩),(7,⟨3,false,[iW a7_b0]⟩),(8,⟨32,false,[rW β1 a8_b0 eW,rW β2 a8_b1 eW,iW a8_b2,iW a8_b3]⟩),(9,⟨101,false,[.clo (.func 73) [] [.ptr 1 0,.ptr 3 0,.ptr 4 0,.ptr 6 0,.ptr 7 0,.ptr 8 0,.ptr 9 0]]⟩)]] [[],[0],[],[0,1,2],[0,1,2,3],[],[],[],[6,7],[5,6,7,8],[0,1,2,3,4,5,6,7,8,9],[0,1,2,3,4,5,6,7,8,9,10]] (by kernel_rfl) (by kernel_rfl) (BornL.ok (.o<| .o<| .o<| .o<| .o<| .o<| .o<| .b rfl rfl<| .b rfl rfl<| .b rfl rfl<| .b rfl rfl<| .b rfl rfl<| .b rfl rfl<| .b rfl rfl<| .b rfl rfl<| .b rfl rfl<| .b rfl rfl<| .b rfl rfl<| .b rfl rfl<| .n)) (BaseL.ok (.o rfl<| .o rfl<| .o rfl<| .o rfl<| .o rfl<| .o rfl<| .o rfl<| .b<| .b<| .b<| .b<| .b<| .b<| .b<| .b<| .b<| .b<| .b<| .b<| .n)) rfl (by decide) (allLt rfl) (.read rfl (.c (.put (fun E hE => .fieldP (lt1 rfl) (.tmp (hE.at (k := 0) rfl)) fld32_1)) .n)<| .read rfl (.c (.put (fun E hE => .loadP (lt1 rfl) (.tmp (hE.at (k := 0) rfl)) one22 rfl rfl rfl)) .n)<| .pure rfl (fun H => .put (fun E hE => .move (lt1 rfl) (.tmp (hE.at (k := 0) rfl))))<| .pure rfl (fun H => .put (fun E hE => .indexRd (enc := eW) (lt1 rfl) (.tmp (hE.at (k := 0) rfl)) (.tmp (hE.at (k := 1) rfl)) Try.underlying22 sz3 (encI_len .i64) rfl hy_9))<| .pure rfl (fun H => .put (fun E hE => .loadR (v := iW y_9) (lt1 rfl) (.tmp (hE.at (k := 0) rfl)) one3 rfl))<| .pure rfl (fun H => .put (fun E hE => .move (lt1 rfl) (.tmp (hE.at (k := 0) rfl))))<| .read rfl (.c (.put (fun E hE => .loadPA (lt1 rfl) (.tmp (hE.at (k := 0) rfl)) agg32 rfl rfl rfl rfl)) .n)<| .pure rfl (fun H => .put (fun E hE => .move (lt1 rfl) (.tmp (hE.at (k := 0) rfl))))<| .pure rfl (fun H => .put (fun E hE => .call0 (bw := false) (lt1 rfl) (c47 (β1 := β1) (β2 := β2) n (R23.mk a8_b0 a8_b1 a8_b2 a8_b3) a0 hy_10) (.cons (.tmp (hE.at (k := 0) rfl)) (.ren rfl) (.cons (.tmp (hE.at (k := 1) rfl)) (.ren rfl) (.nil))) rfl))<| .pure rfl (fun H => .put (fun E hE => .quo (lt1 rfl) (.tmp (hE.at (k := 0) rfl)) (.tmp (hE.at (k := 1) rfl)) ha_11))<| .pure rfl (fun H => .put (fun E hE => .min2 (lt1 rfl) (.tmp (hE.at (k := 0) rfl)) (.tmp (hE.at (k := 1) rfl))))<| .pure rfl (fun H => .put (fun E hE => .assign (lt1 rfl) (.tmp (hE.at (k := 0) rfl))))<| .nil _) (fun E hE => .c (DInv.at hE (k := 0) rfl rfl rfl)<| .c (DInv.at hE (k := 1) rfl rfl rfl)<| .c (DInv.at hE (k := 2) rfl rfl rfl)<| .c (DInv.at hE (k := 3) rfl rfl rfl)<| .c (DInv.at hE (k := 4) rfl rfl rfl)<| .c (DInv.at hE (k := 5) rfl rfl rfl)<| .c (DInv.at hE (k := 6) rfl rfl rfl)<| .c (DInv.at hE (k := 18) rfl rfl rfl)<| .n _) rfl ?_
    refine AWPF.vc (s' := ⟨[(0,iW a0),(1,iW a1),(2,iW a2),(5,.ptr 4 0),(8,.ptr 8 0),(9,.ptr 9 0),(15,iW p_7),(16,iW t16_12)],[(1,⟨22,false,[.own 2 1 0 a3_b0_b.length]⟩),(2,⟨3,true,a3_b0_b.flatMap eW⟩),(3,⟨3,false,[iW a4_b0]⟩),(4,⟨22,false,[.own 5 1 0 a5_b0_b.length]⟩),(5,⟨3,true,a5_b0_b.flatMap eW⟩),(6,⟨96,false,[.sc (.func (.yield l) #[] #[])]⟩),(7,⟨3,false,[iW a7_b0]⟩),(8,⟨32,false,[rW β1 a8_b0 eW,rW β2 a8_b1 eW,iW a8_b2,iW a8_b3]⟩),(9,⟨101,false,[.clo (.func 73) [] [.ptr 1 0,.ptr 3 0,.ptr 4 0,.ptr 6 0,.ptr 7 0,.ptr 8 0,.ptr 9 0]]⟩)]⟩) (fun d_ => by subst ht16_12; exact VC.sub (.of rfl) (.of rfl)) ?_
    refine AWPF.joinB' (S := fun p_65 : (List Int) => ⟨[(0,iW a0),(5,.ptr 4 0)],[(1,⟨22,false,[.own 2 1 0 a3_b0_b.length]⟩),(2,⟨3,true,a3_b0_b.flatMap eW⟩),(3,⟨3,false,[iW a4_b0]⟩),(4,⟨22,false,[.own 5 1 0 p_65.length]⟩),(5,⟨3,true,p_65.flatMap eW⟩),(6,⟨96,false,[.sc (.func (.yield l) #[] #[])]⟩),(7,⟨3,false,[iW a7_b0]⟩),(8,⟨32,false,[rW β1 a8_b0 eW,rW β2 a8_b1 eW,iW a8_b2,iW a8_b3]⟩),(9,⟨101,false,[.clo (.func 73) [] [.ptr 1 0,.ptr 3 0,.ptr 4 0,.ptr 6 0,.ptr 7 0,.ptr 8 0,.ptr 9 0]]⟩)]⟩) h (fun p_65 r h => ?_) (fun k_66 h => ?_)
    ·refine AWPF.seq ?_
     obtain ⟨y_67,hy_67,h⟩ := bindS h
     obtain ⟨l5_68,hl5_68,h⟩ := bindS h
     refine AWPF.of fun d_ => AWP.region (.cons (.loadP (lt1 rfl) (.t rfl) one22 rfl rfl rfl)<| .cons (.move (lt1 rfl) (.t rfl))<| .cons (.idxOwn (lt1 rfl) (.t rfl) (.t rfl) Try.underlying22 sz3 rfl hy_67)<| .cons (.storeP (.t rfl) (.const _ _ _) sz3 rfl (lt_at1 (encI_len .i64) hy_67) rfl (fun _ => rfl) (set_at1 (encI_len .i64) hl5_68 rfl))<| .vc (VC.cellEq (t := 4) (i := 0) (v' := .own 5 1 0 l5_68.length) rfl rfl rfl (congrArg (fun n_ => AV.own 5 1 0 n_) (Eq.symm (setLen hl5_68))))<| ARun.nil _ _ _) ?_
     refine AWPF.vc (s' := ⟨[],[(1,⟨22,false,[.own 2 1 0 a3_b0_b.length]⟩),(2,⟨3,true,a3_b0_b.flatMap eW⟩),(3,⟨3,false,[iW a4_b0]⟩),(4,⟨22,false,[.own 5 1 0 l5_68.length]⟩),(5,⟨3,true,l5_68.flatMap eW⟩),(6,⟨96,false,[.sc (.func (.yield l) #[] #[])]⟩),(7,⟨3,false,[iW a7_b0]⟩),(8,⟨32,false,[rW β1 a8_b0 eW,rW β2 a8_b1 eW,iW a8_b2,iW a8_b3]⟩),(9,⟨101,false,[.clo (.func 73) [] [.ptr 1 0,.ptr 3 0,.ptr 4 0,.ptr 6 0,.ptr 7 0,.ptr 8 0,.ptr 9 0]]⟩)]⟩) (fun d_ => VC.sub (.n _) (.of rfl)) ?_
     refine AWPF.seq ?_
     refine AWPF.of fun d_ => AWP.region (.cons (.assign (lt1 rfl) (.const _ _ _))<| ARun.nil _ _ _) ?_
     refine AWPF.ret ?_
     cases h
     refine ⟨.inl rfl,.inl ⟨_,rfl,fun w0 Zs Zb T0 => Res.vc (s' := ⟨[(13,bW true)],[(1,⟨22,false,[.own 2 1 0 a3_b0_b.length]⟩),(2,⟨3,true,a3_b0_b.flatMap eW⟩),(3,⟨3,false,[iW a4_b0]⟩),(4,⟨22,false,[.own 5 1 0 l5_68.length]⟩),(5,⟨3,true,l5_68.flatMap eW⟩),(6,⟨96,false,[.sc (.func (.yield l) #[] #[])]⟩),(7,⟨3,false,[iW a7_b0]⟩),(8,⟨32,false,[rW β1 a8_b0 eW,rW β2 a8_b1 eW,iW a8_b2,iW a8_b3]⟩),(9,⟨101,false,[.clo (.func 73) [] [.ptr 1 0,.ptr 3 0,.ptr 4 0,.ptr 6 0,.ptr 7 0,.ptr 8 0,.ptr 9 0]]⟩)]⟩) (VC.sub (.of rfl) (.of rfl)) ?_⟩⟩
     refine Res.sub (H := [(1,⟨22,false,[.own 2 1 0 a3_b0_b.length]⟩),(2,⟨3,true,a3_b0_b.flatMap eW⟩),(3,⟨3,false,[iW a4_b0]⟩),(4,⟨22,false,[.own 5 1 0 l5_68.length]⟩),(5,⟨3,true,l5_68.flatMap eW⟩),(6,⟨96,false,[.sc (.func (.yield l) #[] #[])]⟩),(7,⟨3,false,[iW a7_b0]⟩),(8,⟨32,false,[rW β1 a8_b0 eW,rW β2 a8_b1 eW,iW a8_b2,iW a8_b3]⟩),(9,⟨101,false,[.clo (.func 73) [] [.ptr 1 0,.ptr 3 0,.ptr 4 0,.ptr 6 0,.ptr 7 0,.ptr 8 0,.ptr 9 0]]⟩)]) (.of rfl) ?_
     exact Res.of rfl (.cons (.tmp rfl) .nil) rfl rfl
    ·refine AWPF.vc (s' := ⟨[(0,iW a0),(1,iW a1),(2,iW a2),(5,.ptr 4 0),(8,.ptr 8 0),(9,.ptr 9 0),(15,iW p_7),(16,iW t16_12)],[(1,⟨22,false,[.own 2 1 0 a3_b0_b.length]⟩),(2,⟨3,true,a3_b0_b.flatMap eW⟩),(3,⟨3,false,[iW a4_b0]⟩),(4,⟨22,false,[.own 5 1 0 a5_b0_b.length]⟩),(5,⟨3,true,a5_b0_b.flatMap eW⟩),(6,⟨96,false,[.sc (.func (.yield l) #[] #[])]⟩),(7,⟨3,false,[iW a7_b0]⟩),(8,⟨32,false,[rW β1 a8_b0 eW,rW β2 a8_b1 eW,iW a8_b2,iW a8_b3]⟩),(9,⟨101,false,[.clo (.func 73) [] [.ptr 1 0,.ptr 3 0,.ptr 4 0,.ptr 6 0,.ptr 7 0,.ptr 8 0,.ptr 9 0]]⟩)]⟩) (fun d_ => VC.sub (.of rfl) (.of rfl)) ?_
     refine AWPF.loopM (S := fun x_47 : Int × (List Int) => ⟨[(0,iW a0),(1,iW a1),(2,iW a2),(5,.ptr 4 0),(8,.ptr 8 0),(9,.ptr 9 0),(15,iW p_7),(16,iW x_47.1)],[(1,⟨22,false,[.own 2 1 0 a3_b0_b.length]⟩),(2,⟨3,true,a3_b0_b.flatMap eW⟩),(3,⟨3,false,[iW a4_b0]⟩),(4,⟨22,false,[.own 5 1 0 x_47.2.length]⟩),(5,⟨3,true,x_47.2.flatMap eW⟩),(6,⟨96,false,[.sc (.func (.yield l) #[] #[])]⟩),(7,⟨3,false,[iW a7_b0]⟩),(8,⟨32,false,[rW β1 a8_b0 eW,rW β2 a8_b1 eW,iW a8_b2,iW a8_b3]⟩),(9,⟨101,false,[.clo (.func 73) [] [.ptr 1 0,.ptr 3 0,.ptr 4 0,.ptr 6 0,.ptr 7 0,.ptr 8 0,.ptr 9 0]]⟩)]⟩) (x := (t16_12,a5_b0_b)) (fun nx_48 x_47 r h => ?_) h
     unfold m73_L1 at h
     refine AWPF.seq ?_
     refine AWPF.seq ?_
     refine AWPF.of fun d_ => AWP.region (.cons (.move (lt1 rfl) (.t rfl))<| .cons (.move (lt1 rfl) (.t rfl))<| .cons (.geq (lt1 rfl) (.t rfl) (.t rfl))<| ARun.nil _ _ _) ?_
     refine AWPF.vc (s' := ⟨[(0,iW a0),(1,iW a1),(2,iW a2),(5,.ptr 4 0),(8,.ptr 8 0),(9,.ptr 9 0),(15,iW p_7),(16,iW x_47.1),(55,bW (decide (p_7 ≤ x_47.1)))],[(1,⟨22,false,[.own 2 1 0 a3_b0_b.length]⟩),(2,⟨3,true,a3_b0_b.flatMap eW⟩),(3,⟨3,false,[iW a4_b0]⟩),(4,⟨22,false,[.own 5 1 0 x_47.2.length]⟩),(5,⟨3,true,x_47.2.flatMap eW⟩),(6,⟨96,false,[.sc (.func (.yield l) #[] #[])]⟩),(7,⟨3,false,[iW a7_b0]⟩),(8,⟨32,false,[rW β1 a8_b0 eW,rW β2 a8_b1 eW,iW a8_b2,iW a8_b3]⟩),(9,⟨101,false,[.clo (.func 73) [] [.ptr 1 0,.ptr 3 0,.ptr 4 0,.ptr 6 0,.ptr 7 0,.ptr 8 0,.ptr 9 0]]⟩)]⟩) (fun d_ => VC.sub (.of rfl) (.of rfl)) ?_
     refine AWPF.cond (fun d_ => .tmp rfl) (fun hc => ?_) (fun hc => ?_)
     ·have h := iteT hc h
      refine AWPF.skip ?_
      refine AWPF.seq ?_
      refine AWPF.block ?_
      refine AWPF.seq ?_
      refine AWPF.of fun d_ => AWP.region (.cons (.move (lt1 rfl) (.t rfl))<| .cons (.assign (lt1 rfl) (.t rfl))<| ARun.nil _ _ _) ?_
      refine AWPF.vc (s' := ⟨[(0,iW a0),(1,iW a1),(2,iW a2),(5,.ptr 4 0),(8,.ptr 8 0),(9,.ptr 9 0),(15,iW p_7),(16,iW x_47.1),(17,iW a2)],[(1,⟨22,false,[.own 2 1 0 a3_b0_b.length]⟩),(2,⟨3,true,a3_b0_b.flatMap eW⟩),(3,⟨3,false,[iW a4_b0]⟩),(4,⟨22,false,[.own 5 1 0 x_47.2.length]⟩),(5,⟨3,true,x_47.2.flatMap eW⟩),(6,⟨96,false,[.sc (.func (.yield l) #[] #[])]⟩),(7,⟨3,false,[iW a7_b0]⟩),(8,⟨32,false,[rW β1 a8_b0 eW,rW β2 a8_b1 eW,iW a8_b2,iW a8_b3]⟩),(9,⟨101,false,[.clo (.func 73) [] [.ptr 1 0,.ptr 3 0,.ptr 4 0,.ptr 6 0,.ptr 7 0,.ptr 8 0,.ptr 9 0]]⟩)]⟩) (fun d_ => VC.sub (.of rfl) (.of rfl)) ?_
      refine AWPF.seq ?_
      refine AWPF.seq ?_
      obtain ⟨y_49,hy_49,h⟩ := bindS h
      refine AWPF.of fun d_ => AWP.region (.cons (.move (lt1 rfl) (.t rfl))<| .cons (.fieldP (lt1 rfl) (.t rfl) fld32_1)<| .cons (.loadP (lt1 rfl) (.t rfl) one22 rfl rfl rfl)<| .cons (.move (lt1 rfl) (.t rfl))<| .cons (.indexRd (enc := eW) (lt1 rfl) (.t rfl) (.t rfl) Try.underlying22 sz3 (encI_len .i64) rfl hy_49)<| .cons (.loadR (v := iW y_49) (lt1 rfl) (.t rfl) one3 rfl)<| .cons (.lss (lt1 rfl) (.t rfl) (.t rfl))<| ARun.nil _ _ _) ?_
      refine AWPF.vc (s' := ⟨[(0,iW a0),(1,iW a1),(2,iW a2),(5,.ptr 4 0),(8,.ptr 8 0),(9,.ptr 9 0),(15,iW p_7),(16,iW x_47.1),(17,iW a2),(65,bW (decide (x_47.1 < y_49)))],[(1,⟨22,false,[.own 2 1 0 a3_b0_b.length]⟩),(2,⟨3,true,a3_b0_b.flatMap eW⟩),(3,⟨3,false,[iW a4_b0]⟩),(4,⟨22,false,[.own 5 1 0 x_47.2.length]⟩),(5,⟨3,true,x_47.2.flatMap eW⟩),(6,⟨96,false,[.sc (.func (.yield l) #[] #[])]⟩),(7,⟨3,false,[iW a7_b0]⟩),(8,⟨32,false,[rW β1 a8_b0 eW,rW β2 a8_b1 eW,iW a8_b2,iW a8_b3]⟩),(9,⟨101,false,[.clo (.func 73) [] [.ptr 1 0,.ptr 3 0,.ptr 4 0,.ptr 6 0,.ptr 7 0,.ptr 8 0,.ptr 9 0]]⟩)]⟩) (fun d_ => VC.sub (.of rfl) (.of rfl)) ?_
      refine AWPF.join' (S := fun p_52 : Int => ⟨[(0,iW a0),(1,iW a1),(2,iW a2),(5,.ptr 4 0),(8,.ptr 8 0),(9,.ptr 9 0),(15,iW p_7),(16,iW x_47.1),(17,iW p_52)],[(1,⟨22,false,[.own 2 1 0 a3_b0_b.length]⟩),(2,⟨3,true,a3_b0_b.flatMap eW⟩),(3,⟨3,false,[iW a4_b0]⟩),(4,⟨22,false,[.own 5 1 0 x_47.2.length]⟩),(5,⟨3,true,x_47.2.flatMap eW⟩),(6,⟨96,false,[.sc (.func (.yield l) #[] #[])]⟩),(7,⟨3,false,[iW a7_b0]⟩),(8,⟨32,false,[rW β1 a8_b0 eW,rW β2 a8_b1 eW,iW a8_b2,iW a8_b3]⟩),(9,⟨101,false,[.clo (.func 73) [] [.ptr 1 0,.ptr 3 0,.ptr 4 0,.ptr 6 0,.ptr 7 0,.ptr 8 0,.ptr 9 0]]⟩)]⟩) h (fun p_52 r h => ?_) (fun k_53 h => ?_)
      ·refine AWPF.seq ?_
       obtain ⟨y_54,hy_54,h⟩ := bindS h
       obtain ⟨l5_55,hl5_55,h⟩ := bindS h
       refine AWPF.of fun d_ => AWP.region (.cons (.loadP (lt1 rfl) (.t rfl) one22 rfl rfl rfl)<| .cons (.move (lt1 rfl) (.t rfl))<| .cons (.move (lt1 rfl) (.t rfl))<| .cons (.idxOwn (lt1 rfl) (.t rfl) (.t rfl) Try.underlying22 sz3 rfl hy_54)<| .cons (.storeP (.t rfl) (.t rfl) sz3 rfl (lt_at1 (encI_len .i64) hy_54) rfl (fun _ => rfl) (set_at1 (encI_len .i64) hl5_55 rfl))<| .vc (VC.cellEq (t := 4) (i := 0) (v' := .own 5 1 0 l5_55.length) rfl rfl rfl (congrArg (fun n_ => AV.own 5 1 0 n_) (Eq.symm (setLen hl5_55))))<| ARun.nil _ _ _) ?_
       refine AWPF.vc (s' := ⟨[(0,iW a0),(1,iW a1),(2,iW a2),(5,.ptr 4 0),(8,.ptr 8 0),(9,.ptr 9 0),(15,iW p_7),(16,iW x_47.1),(17,iW p_52)],[(1,⟨22,false,[.own 2 1 0 a3_b0_b.length]⟩),(2,⟨3,true,a3_b0_b.flatMap eW⟩),(3,⟨3,false,[iW a4_b0]⟩),(4,⟨22,false,[.own 5 1 0 l5_55.length]⟩),(5,⟨3,true,l5_55.flatMap eW⟩),(6,⟨96,false,[.sc (.func (.yield l) #[] #[])]⟩),(7,⟨3,false,[iW a7_b0]⟩),(8,⟨32,false,[rW β1 a8_b0 eW,rW β2 a8_b1 eW,iW a8_b2,iW a8_b3]⟩),(9,⟨101,false,[.clo (.func 73) [] [.ptr 1 0,.ptr 3 0,.ptr 4 0,.ptr 6 0,.ptr 7 0,.ptr 8 0,.ptr 9 0]]⟩)]⟩) (fun d_ => VC.sub (.of rfl) (.of rfl)) ?_
       refine AWPF.seq ?_
       obtain ⟨y_56,hy_56,h⟩ := bindS h
       obtain ⟨ys_57,x_58,q_59,hy_60,h,hq_61⟩ := yldsS h
       refine AWPF.drawC (b := 11) mixed (Rr := [[],[],[1],[],[],[],[],[5,6],[4,5,6,7],[3,4,5,6,7,8],[],[0,1,2,3,4,5,6,7,8,9,10],[0,1,2,3,4,5,6,7,8,9,10,11]]) (by kernel_rfl) (fun d_ => AWP.drawAny (s' := ⟨[(0,iW a0),(1,iW a1),(2,iW a2),(5,.ptr 4 0),(8,.ptr 8 0),(9,.ptr 9 0),(15,iW p_7),(16,iW x_47.1),(75,.clo (.func 73) [] [.ptr 1 0,.ptr 3 0,.ptr 4 0,.ptr 6 0,.ptr 7 0,.ptr 8 0,.ptr 9 0]),(77,iW (IntKind.wrap .i64 (a0 + (1 : Int)))),(84,iW (IntKind.wrap .i64 (a1 - (IntKind.wrap .i64 (x_47.1 * y_56))))),(85,iW p_52)],[(1,⟨22,false,[.own 2 1 0 a3_b0_b.length]⟩),(2,⟨3,true,a3_b0_b.flatMap eW⟩),(3,⟨3,false,[iW a4_b0]⟩),(4,⟨22,false,[.own 5 1 0 l5_55.length]⟩),(5,⟨3,true,l5_55.flatMap eW⟩),(6,⟨96,false,[.sc (.func (.yield l) #[] #[])]⟩),(7,⟨3,false,[iW a7_b0]⟩),(8,⟨32,false,[rW β1 a8_b0 eW,rW β2 a8_b1 eW,iW a8_b2,iW a8_b3]⟩),(9,⟨101,false,[.clo (.func 73) [] [.ptr 1 0,.ptr 3 0,.ptr 4 0,.ptr 6 0,.ptr 7 0,.ptr 8 0,.ptr 9 0]]⟩)]⟩) [⟨0,iW a0,none,[]⟩,⟨1,iW a1,none,[]⟩,⟨2,iW a2,none,[]⟩,⟨5,.ptr 4 0,none,[]⟩,⟨8,.ptr 8 0,none,[]⟩,⟨9,.ptr 9 0,none,[]⟩,⟨15,iW p_7,none,[]⟩,⟨16,iW x_47.1,none,[]⟩,⟨17,iW p_52,none,[]⟩,⟨75,.clo (.func 73) [] [.ptr 1 0,.ptr 3 0,.ptr 4 0,.ptr 6 0,.ptr 7 0,.ptr 8 0,.ptr 9 0],some 0,[]⟩,⟨76,iW a0,some 1,[]⟩,⟨77,iW (IntKind.wrap .i64 (a0 + (1 : Int))),some 2,[]⟩,⟨78,iW a1,some 3,[]⟩,⟨79,iW x_47.1,some 4,[]⟩,⟨80,.agg [rW β1 a8_b0 eW,rW β2 a8_b1 eW,iW a8_b2,iW a8_b3],some 5,[]⟩,⟨81,iW a0,some 6,[]⟩,⟨82,iW y_56,some 7,[]⟩,⟨83,iW (IntKind.wrap .i64 (x_47.1 * y_56)),some 8,[]⟩,⟨84,iW (IntKind.wrap .i64 (a1 - (IntKind.wrap .i64 (x_47.1 * y_56)))),some 9,[]⟩,⟨85,iW p_52,some 10,[]⟩] [⟨[5],0,0,some (75,.clo (.func 73) [] [.ptr 1 0,.ptr 3 0,.ptr 4 0,.ptr 6 0,.ptr 7 0,.ptr 8 0,.ptr 9 0]),[]⟩,⟨[0],0,0,some (76,iW a0),[]⟩,⟨[10],0,0,some (77,iW (IntKind.wrap .i64 (a0 + (1 : Int)))),[]⟩,⟨[1],0,0,some (78,iW a1),[]⟩,⟨[7],0,0,some (79,iW x_47.1),[]⟩,⟨[4],0,0,some (80,.agg [rW β1 a8_b0 eW,rW β2 a8_b1 eW,iW a8_b2,iW a8_b3]),[]⟩,⟨[0],0,0,some (81,iW a0),[]⟩,⟨[14,15],0,0,some (82,iW y_56),[]⟩,⟨[13,16],0,0,some (83,iW (IntKind.wrap .i64 (x_47.1 * y_56))),[]⟩,⟨[12,17],0,0,some (84,iW (IntKind.wrap .i64 (a1 - (IntKind.wrap .i64 (x_47.1 * y_56))))),[]⟩,⟨[8],0,0,some (85,iW p_52),[]⟩] [] [[(1,⟨22,false,[.own 2 1 0 a3_b0_b.length]⟩),(2,⟨3,true,a3_b0_b.flatMap eW⟩),(3,⟨3,false,[iW a4_b0]⟩),(4,⟨22,false,[.own 5 1 0 l5_55.length]⟩),(5,⟨3,true,l5_55.flatMap eW⟩),(6,⟨96,false,[.sc (.func (.yield l) #[] #[])]⟩),(7,⟨3,false,[iW a7_b0]⟩),(8,⟨32,false,[rW β1 a8_b0 eW,rW β2 a8_b1 eW,iW a8_b2,iW a8_b3]⟩),(9,⟨101,false,[.clo (.func 73) [] [.ptr 1 0,.ptr 3 0,.ptr 4 0,.ptr 6 0,.ptr 7 0,.ptr 8 0,.ptr 9 0]]⟩)]] [[],[],[1],[],[],[],[],[5,6],[4,5,6,7],[3,4,5,6,7,8],[]] (by kernel_rfl) (by kernel_rfl) (BornL.ok (.o<| .o<| .o<| .o<| .o<| .o<| .o<| .o<| .o<| .b rfl rfl<| .b rfl rfl<| .b rfl rfl<| .b rfl rfl<| .b rfl rfl<| .b rfl rfl<| .b rfl rfl<| .b rfl rfl<| .b rfl rfl<| .b rfl rfl<| .b rfl rfl<| .n)) (BaseL.ok (.o rfl<| .o rfl<| .o rfl<| .o rfl<| .o rfl<| .o rfl<| .o rfl<| .o rfl<| .o rfl<| .b<| .b<| .b<| .b<| .b<| .b<| .b<| .b<| .b<| .b<| .b<| .n)) rfl (by decide) (allLt rfl) (.read rfl (.c (.put (fun E hE => .loadP (lt1 rfl) (.tmp (hE.at (k := 0) rfl)) one101 rfl rfl rfl)) .n)<| .pure rfl (fun H => .put (fun E hE => .move (lt1 rfl) (.tmp (hE.at (k := 0) rfl))))<| .pure rfl (fun H => .put (fun E hE => .add (lt1 rfl) (.tmp (hE.at (k := 0) rfl)) (.const _ _ _)))<| .pure rfl (fun H => .put (fun E hE => .move (lt1 rfl) (.tmp (hE.at (k := 0) rfl))))<| .pure rfl (fun H => .put (fun E hE => .move (lt1 rfl) (.tmp (hE.at (k := 0) rfl))))<| .read rfl (.c (.put (fun E hE => .loadPA (lt1 rfl) (.tmp (hE.at (k := 0) rfl)) agg32 rfl rfl rfl rfl)) .n)<| .pure rfl (fun H => .put (fun E hE => .move (lt1 rfl) (.tmp (hE.at (k := 0) rfl))))<| .pure rfl (fun H => .put (fun E hE => .call0 (bw := false) (lt1 rfl) (c47 (β1 := β1) (β2 := β2) n (R23.mk a8_b0 a8_b1 a8_b2 a8_b3) a0 hy_56) (.cons (.tmp (hE.at (k := 0) rfl)) (.ren rfl) (.cons (.tmp (hE.at (k := 1) rfl)) (.ren rfl) (.nil))) rfl))<| .pure rfl (fun H => .put (fun E hE => .mul (lt1 rfl) (.tmp (hE.at (k := 0) rfl)) (.tmp (hE.at (k := 1) rfl))))<| .pure rfl (fun H => .put (fun E hE => .sub (lt1 rfl) (.tmp (hE.at (k := 0) rfl)) (.tmp (hE.at (k := 1) rfl))))<| .pure rfl (fun H => .put (fun E hE => .move (lt1 rfl) (.tmp (hE.at (k := 0) rfl))))<| .nil _) (fun E hE => .c (DInv.at hE (k := 0) rfl rfl rfl)<| .c (DInv.at hE (k := 1) rfl rfl rfl)<| .c (DInv.at hE (k := 2) rfl rfl rfl)<| .c (DInv.at hE (k := 3) rfl rfl rfl)<| .c (DInv.at hE (k := 4) rfl rfl rfl)<| .c (DInv.at hE (k := 5) rfl rfl rfl)<| .c (DInv.at hE (k := 6) rfl rfl rfl)<| .c (DInv.at hE (k := 7) rfl rfl rfl)<| .c (DInv.at hE (k := 9) rfl rfl rfl)<| .c (DInv.at hE (k := 11) rfl rfl rfl)<| .c (DInv.at hE (k := 18) rfl rfl rfl)<| .c (DInv.at hE (k := 19) rfl rfl rfl)<| .n _) rfl ⟨rfl,rfl⟩) (.ycall (σ := sgT [(1,1),(2,2),(3,3),(4,4),(5,5),(6,6),(7,7),(8,8),(9,9)]) (us' := []) (avs := [iW (IntKind.wrap .i64 (a0 + (1 : Int))),iW (IntKind.wrap .i64 (a1 - (IntKind.wrap .i64 (x_47.1 * y_56)))),iW p_52]) (cs' := [.ptr 1 0,.ptr 3 0,.ptr 4 0,.ptr 6 0,.ptr 7 0,.ptr 8 0,.ptr 9 0]) hJ hJx hR hq_61 (lt1 rfl) (fun d_ => .tmp rfl) (ih (β1 := β1) (β2 := β2) (IntKind.wrap .i64 (a0 + (1 : Int))) (IntKind.wrap .i64 (a1 - (IntKind.wrap .i64 (x_47.1 * y_56)))) p_52 a3_b0_b a4_b0 l5_55 a7_b0 a8_b0 a8_b1 a8_b2 a8_b3 hy_60) (fun d_ => .nil) (fun d_ => .cons (.t rfl) (.ren rfl) (.cons (.t rfl) (.ren rfl) (.cons (.t rfl) (.ren rfl) (.nil)))) (fun d_ => .cons (.ren rfl) (.cons (.ren rfl) (.cons (.ren rfl) (.cons (.ren rfl) (.cons (.ren rfl) (.cons (.ren rfl) (.cons (.ren rfl) (.nil)))))))) (fun d_ b_ x_ => (CallOk.mk' (.c rfl (.c rfl (.c rfl (.c rfl (.c rfl (.c rfl (.c rfl (.c rfl (.c rfl (.n)))))))))) rfl)) (fun o_62 d_ =>  .cons (.not (lt1 rfl) (.t rfl))<| ARun.nil _ _ _)) ?_ (fun x_63 => ?_)
       ·refine AWPF.vc (s' := ⟨[(0,iW a0),(1,iW a1),(2,iW a2),(5,.ptr 4 0),(8,.ptr 8 0),(9,.ptr 9 0),(15,iW p_7),(16,iW x_47.1),(87,bW false)],[(1,⟨22,false,[.own 2 1 0 a3_b0_b.length]⟩),(2,⟨3,true,a3_b0_b.flatMap eW⟩),(3,⟨3,false,[iW a4_b0]⟩),(4,⟨22,false,[.own 5 1 0 x_58.length]⟩),(5,⟨3,true,x_58.flatMap eW⟩),(6,⟨96,false,[.sc (.func (.yield l) #[] #[])]⟩),(7,⟨3,false,[iW a7_b0]⟩),(8,⟨32,false,[rW β1 a8_b0 eW,rW β2 a8_b1 eW,iW a8_b2,iW a8_b3]⟩),(9,⟨101,false,[.clo (.func 73) [] [.ptr 1 0,.ptr 3 0,.ptr 4 0,.ptr 6 0,.ptr 7 0,.ptr 8 0,.ptr 9 0]]⟩)]⟩) (fun d_ => VC.sub (.of rfl) (.of rfl)) ?_
        refine AWPF.cond (fun d_ => .tmp rfl) (fun hc => by cases hc) (fun _ => ?_)
        refine AWPF.skip ?_
        obtain ⟨t16_64,ht16_64,h⟩ := letS h
        refine AWPF.of fun d_ => AWP.region (.cons (.move (lt1 rfl) (.t rfl))<| .cons (.sub (lt1 rfl) (.t rfl) (.const _ _ _))<| .cons (.assign (lt1 rfl) (.t rfl))<| ARun.nil _ _ _) ?_
        exact endJF (t16_64,x_58) h (fun d_ => by subst ht16_64; exact VC.sub (.of rfl) (.of rfl))
       ·refine AWPF.vc (s' := ⟨[(0,iW a0),(1,iW a1),(2,iW a2),(5,.ptr 4 0),(8,.ptr 8 0),(9,.ptr 9 0),(15,iW p_7),(16,iW x_47.1),(87,bW true)],[(1,⟨22,false,[.own 2 1 0 a3_b0_b.length]⟩),(2,⟨3,true,a3_b0_b.flatMap eW⟩),(3,⟨3,false,[iW a4_b0]⟩),(4,⟨22,false,[.own 5 1 0 x_63.length]⟩),(5,⟨3,true,x_63.flatMap eW⟩),(6,⟨96,false,[.sc (.func (.yield l) #[] #[])]⟩),(7,⟨3,false,[iW a7_b0]⟩),(8,⟨32,false,[rW β1 a8_b0 eW,rW β2 a8_b1 eW,iW a8_b2,iW a8_b3]⟩),(9,⟨101,false,[.clo (.func 73) [] [.ptr 1 0,.ptr 3 0,.ptr 4 0,.ptr 6 0,.ptr 7 0,.ptr 8 0,.ptr 9 0]]⟩)]⟩) (fun d_ => VC.sub (.of rfl) (.of rfl)) ?_
        refine AWPF.cond (fun d_ => .tmp rfl) (fun _ => ?_) (fun hc => by cases hc)
        refine AWPF.seq ?_
        refine AWPF.of fun d_ => AWP.region (.cons (.assign (lt1 rfl) (.const _ _ _))<| ARun.nil _ _ _) ?_
        refine AWPF.ret ?_
        refine ⟨.inl rfl,.inr ⟨rfl,x_63,fun w0 Zs Zb T0 => Res.vc (s' := ⟨[(13,bW false)],[(1,⟨22,false,[.own 2 1 0 a3_b0_b.length]⟩),(2,⟨3,true,a3_b0_b.flatMap eW⟩),(3,⟨3,false,[iW a4_b0]⟩),(4,⟨22,false,[.own 5 1 0 x_63.length]⟩),(5,⟨3,true,x_63.flatMap eW⟩),(6,⟨96,false,[.sc (.func (.yield l) #[] #[])]⟩),(7,⟨3,false,[iW a7_b0]⟩),(8,⟨32,false,[rW β1 a8_b0 eW,rW β2 a8_b1 eW,iW a8_b2,iW a8_b3]⟩),(9,⟨101,false,[.clo (.func 73) [] [.ptr 1 0,.ptr 3 0,.ptr 4 0,.ptr 6 0,.ptr 7 0,.ptr 8 0,.ptr 9 0]]⟩)]⟩) (VC.sub (.of rfl) (.of rfl)) ?_⟩⟩
        refine Res.sub (H := [(1,⟨22,false,[.own 2 1 0 a3_b0_b.length]⟩),(2,⟨3,true,a3_b0_b.flatMap eW⟩),(3,⟨3,false,[iW a4_b0]⟩),(4,⟨22,false,[.own 5 1 0 x_63.length]⟩),(5,⟨3,true,x_63.flatMap eW⟩),(6,⟨96,false,[.sc (.func (.yield l) #[] #[])]⟩),(7,⟨3,false,[iW a7_b0]⟩),(8,⟨32,false,[rW β1 a8_b0 eW,rW β2 a8_b1 eW,iW a8_b2,iW a8_b3]⟩),(9,⟨101,false,[.clo (.func 73) [] [.ptr 1 0,.ptr 3 0,.ptr 4 0,.ptr 6 0,.ptr 7 0,.ptr 8 0,.ptr 9 0]]⟩)]) (.of rfl) ?_
        exact Res.of rfl (.cons (.tmp rfl) .nil) rfl rfl
      ·refine AWPF.cond (fun d_ => .tmp rfl) (fun hc => ?_) (fun hc => ?_)
       ·have h := iteT hc h
        obtain ⟨y_50,hy_50,h⟩ := bindS h
        obtain ⟨t17_51,ht17_51,h⟩ := letS h
        refine AWPF.of fun d_ => AWP.region (.cons (.move (lt1 rfl) (.t rfl))<| .cons (.loadPA (lt1 rfl) (.t rfl) agg32 rfl rfl rfl rfl)<| .cons (.move (lt1 rfl) (.t rfl))<| .cons (.call0 (bw := false) (lt1 rfl) (c47 (β1 := β1) (β2 := β2) n (R23.mk a8_b0 a8_b1 a8_b2 a8_b3) a0 hy_50) (.cons (.t rfl) (.ren rfl) (.cons (.t rfl) (.ren rfl) (.nil))) rfl)<| .cons (.min2 (lt1 rfl) (.t rfl) (.t rfl))<| .cons (.assign (lt1 rfl) (.t rfl))<| ARun.nil _ _ _) ?_
        exact endJF t17_51 h (fun d_ => by subst ht17_51; exact VC.sub (.of rfl) (.of rfl))
       ·have h := iteF hc h
        refine AWPF.skip ?_
        exact endJF a2 h (fun d_ => VC.sub (.of rfl) (.of rfl))
     ·have h := iteF hc h
      refine AWPF.exit ?_
      exact endJF x_47.2 h (fun d_ => VC.sub (.of rfl) (.of rfl))
   ·refine AWPF.cond (fun d_ => .tmp rfl) (fun hc => ?_) (fun hc => ?_)
    ·have h := iteT hc h
     refine AWPF.of fun d_ => AWP.region (.cons (.assign (lt1 rfl) (.const _ _ _))<| ARun.nil _ _ _) ?_
     exact endJF (1 : Int) h (fun d_ => VC.sub (.of rfl) (.of rfl))
    ·have h := iteF hc h
     refine AWPF.skip ?_
     exact endJF (0 : Int) h (fun d_ => VC.sub (.of rfl) (.of rfl))
theorem y73 (n l : Nat) {β1 : Bool} {β2 : Bool} (a0 : Int) (a1 : Int) (a2 : Int) (a3_b0_b : (List Int)) (a4_b0 : Int) (a5_b0_b : (List Int)) (a7_b0 : Int) (a8_b0 : (List Int)) (a8_b1 : (List Int)) (a8_b2 : Int) (a8_b3 : Int) {ys : List (List Int)} {x : (List Int)} (h : m73 n a0 a1 a2 a3_b0_b a4_b0 a5_b0_b a7_b0 a8_b0 a8_b1 a8_b2 a8_b3 = some (ys,x)) : YSpec Try.prog l 73 [1,2,3,4,5,6,7,8,9] [iW a0,iW a1,iW a2,.ptr 1 0,.ptr 3 0,.ptr 4 0,.ptr 6 0,.ptr 7 0,.ptr 8 0,.ptr 9 0] [(1,⟨22,false,[.own 2 1 0 a3_b0_b.length]⟩),(2,⟨3,true,a3_b0_b.flatMap eW⟩),(3,⟨3,false,[iW a4_b0]⟩),(4,⟨22,false,[.own 5 1 0 a5_b0_b.length]⟩),(5,⟨3,true,a5_b0_b.flatMap eW⟩),(6,⟨96,false,[.sc (.func (.yield l) #[] #[])]⟩),(7,⟨3,false,[iW a7_b0]⟩),(8,⟨32,false,[rW β1 a8_b0 eW,rW β2 a8_b1 eW,iW a8_b2,iW a8_b3]⟩),(9,⟨101,false,[.clo (.func 73) [] [.ptr 1 0,.ptr 3 0,.ptr 4 0,.ptr 6 0,.ptr 7 0,.ptr 8 0,.ptr 9 0]]⟩)] (fun e_ : (List Int) => [rW false e_ eW]) ys (fun x_ : (List Int) => [(1,⟨22,false,[.own 2 1 0 a3_b0_b.length]⟩),(2,⟨3,true,a3_b0_b.flatMap eW⟩),(3,⟨3,false,[iW a4_b0]⟩),(4,⟨22,false,[.own 5 1 0 x_.length]⟩),(5,⟨3,true,x_.flatMap eW⟩),(6,⟨96,false,[.sc (.func (.yield l) #[] #[])]⟩),(7,⟨3,false,[iW a7_b0]⟩),(8,⟨32,false,[rW β1 a8_b0 eW,rW β2 a8_b1 eW,iW a8_b2,iW a8_b3]⟩),(9,⟨101,false,[.clo (.func 73) [] [.ptr 1 0,.ptr 3 0,.ptr 4 0,.ptr 6 0,.ptr 7 0,.ptr 8 0,.ptr 9 0]]⟩)]) x := y73F n l n a0 a1 a2 a3_b0_b a4_b0 a5_b0_b a7_b0 a8_b0 a8_b1 a8_b2 a8_b3 h
theorem i72 {β1 : Bool} {β2 : Bool} (n : Nat) (a1_b0 : Int) (a2_b0_b : (List Int)) (a3_b0 : Int) (a4_b0 : (List Int)) (a4_b1 : (List Int)) (a4_b2 : Int) (a4_b3 : Int) {r : List (List Int)} (h : m72 n a1_b0 a2_b0_b a3_b0 a4_b0 a4_b1 a4_b2 a4_b3 = some r) : ItSpec Try.prog 72 [.ptr 1 0,.ptr 2 0,.ptr 4 0,.ptr 5 0] [(1,⟨3,false,[iW a1_b0]⟩),(2,⟨22,false,[.own 3 1 0 a2_b0_b.length]⟩),(3,⟨3,true,a2_b0_b.flatMap eW⟩),(4,⟨3,false,[iW a3_b0]⟩),(5,⟨32,false,[rW β1 a4_b0 eW,rW β2 a4_b1 eW,iW a4_b2,iW a4_b3]⟩)] (fun e_ : (List Int) => [rW false e_ eW]) r := by
 replace h : m72Y n a1_b0 a2_b0_b a3_b0 a4_b0 a4_b1 a4_b2 a4_b3 = some (r,()) := mapU h
 refine ItSpec.ofY (fn := Try.f72) Try.func72 Try.ntmps72 rfl rfl (le1 rfl) (fun tm w => ⟨_,results_none rfl tm _ w⟩) (fun l ι0 Zs Zb J Jx hJ hJx hR => ?_)
 unfold m72Y at h
 refine AWPF.seq ?_
 refine AWPF.of fun d_ => AWP.region (.cons (.box (t := 6) (n := 1) (lt1 rfl) (nm rfl) (.t rfl) (by first | exact ⟨rfl,rfl⟩ | rfl) rfl)<| ARun.nil _ _ _) ?_
 refine AWPF.vc (s' := ⟨[(1,.ptr 1 0),(2,.ptr 2 0),(3,.ptr 4 0),(4,.ptr 5 0),(5,.ptr 6 0)],[(6,⟨96,false,[.sc (.func (.yield l) #[] #[])]⟩),(1,⟨3,false,[iW a1_b0]⟩),(2,⟨22,false,[.own 3 1 0 a2_b0_b.length]⟩),(3,⟨3,true,a2_b0_b.flatMap eW⟩),(4,⟨3,false,[iW a3_b0]⟩),(5,⟨32,false,[rW β1 a4_b0 eW,rW β2 a4_b1 eW,iW a4_b2,iW a4_b3]⟩)]⟩) (fun d_ => VC.sub (.of rfl) (.of rfl)) ?_
 refine AWPF.seq ?_
 obtain ⟨l7_1,hl7_1,h⟩ := bindS h
 refine AWPF.of fun d_ => AWP.region (.cons (.loadP (lt1 rfl) (.t rfl) one3 rfl rfl rfl)<| .cons (.mkS (enc := eW) (t := 7) (lt1 rfl) (nm rfl) (.t rfl) (.t rfl) Try.underlying22 zero3 el3 rfl (encI_len .i64) (by decide) hl7_1)<| .cons (.alloc (t := 8) (k := ⟨22,false,[.sc (.slice none 0 0)]⟩) (lt1 rfl) (nm rfl) zero22 rfl rfl)<| .cons (.storeP (.t rfl) (.t rfl) sz22 rfl (lt1 rfl) rfl (by intro h; cases h) rfl)<| ARun.nil _ _ _) ?_
 refine AWPF.vc (s' := ⟨[(1,.ptr 1 0),(2,.ptr 2 0),(3,.ptr 4 0),(4,.ptr 5 0),(5,.ptr 6 0),(6,.ptr 8 0)],[(8,⟨22,false,[.own 7 1 0 l7_1.length]⟩),(7,⟨3,true,l7_1.flatMap eW⟩),(6,⟨96,false,[.sc (.func (.yield l) #[] #[])]⟩),(1,⟨3,false,[iW a1_b0]⟩),(2,⟨22,false,[.own 3 1 0 a2_b0_b.length]⟩),(3,⟨3,true,a2_b0_b.flatMap eW⟩),(4,⟨3,false,[iW a3_b0]⟩),(5,⟨32,false,[rW β1 a4_b0 eW,rW β2 a4_b1 eW,iW a4_b2,iW a4_b3]⟩)]⟩) (fun d_ => VC.sub (.of rfl) (.of rfl)) ?_
 refine AWPF.seq ?_
 refine AWPF.of fun d_ => AWP.region (.cons (.alloc (t := 9) (k := ⟨101,false,[.sc (.nilFunc)]⟩) (lt1 rfl) (nm rfl) zero101 rfl rfl)<| ARun.nil _ _ _) ?_
 refine AWPF.vc (s' := ⟨[(1,.ptr 1 0),(2,.ptr 2 0),(3,.ptr 4 0),(4,.ptr 5 0),(5,.ptr 6 0),(6,.ptr 8 0),(7,.ptr 9 0)],[(9,⟨101,false,[.sc (.nilFunc)]⟩),(8,⟨22,false,[.own 7 1 0 l7_1.length]⟩),(7,⟨3,true,l7_1.flatMap eW⟩),(6,⟨96,false,[.sc (.func (.yield l) #[] #[])]⟩),(1,⟨3,false,[iW a1_b0]⟩),(2,⟨22,false,[.own 3 1 0 a2_b0_b.length]⟩),(3,⟨3,true,a2_b0_b.flatMap eW⟩),(4,⟨3,false,[iW a3_b0]⟩),(5,⟨32,false,[rW β1 a4_b0 eW,rW β2 a4_b1 eW,iW a4_b2,iW a4_b3]⟩)]⟩) (fun d_ => VC.sub (.of rfl) (.of rfl)) ?_
 refine AWPF.seq ?_
 refine AWPF.of fun d_ => AWP.region (.cons (.makeFunc (lt1 rfl) (.nil) (.cons (.t rfl) (.cons (.t rfl) (.cons (.t rfl) (.cons (.t rfl) (.cons (.t rfl) (.cons (.t rfl) (.cons (.t rfl) (.nil)))))))))<| .cons (.storeP (.t rfl) (.t rfl) sz101 rfl (lt1 rfl) rfl (by intro h; cases h) rfl)<| ARun.nil _ _ _) ?_
 refine AWPF.vc (s' := ⟨[(4,.ptr 5 0),(7,.ptr 9 0)],[(9,⟨101,false,[.clo (.func 73) [] [.ptr 2 0,.ptr 1 0,.ptr 8 0,.ptr 6 0,.ptr 4 0,.ptr 5 0,.ptr 9 0]]⟩),(8,⟨22,false,[.own 7 1 0 l7_1.length]⟩),(7,⟨3,true,l7_1.flatMap eW⟩),(6,⟨96,false,[.sc (.func (.yield l) #[] #[])]⟩),(1,⟨3,false,[iW a1_b0]⟩),(2,⟨22,false,[.own 3 1 0 a2_b0_b.length]⟩),(3,⟨3,true,a2_b0_b.flatMap eW⟩),(4,⟨3,false,[iW a3_b0]⟩),(5,⟨32,false,[rW β1 a4_b0 eW,rW β2 a4_b1 eW,iW a4_b2,iW a4_b3]⟩)]⟩) (fun d_ => VC.sub (.of rfl) (.of rfl)) ?_
 obtain ⟨ys_2,x_3,q_4,hy_5,h,hq_6⟩ := yldsS h
 refine AWPF.regionC (.cons (fun d_ => .loadP (lt1 rfl) (.t rfl) one101 rfl rfl rfl)<| .cons (fun d_ => .fieldP (lt1 rfl) (.t rfl) fld32_2)<| .cons (fun d_ => .loadP (lt1 rfl) (.t rfl) one3 rfl rfl rfl)<| .cons (fun d_ => .fieldP (lt1 rfl) (.t rfl) fld32_3)<| .cons (fun d_ => .loadP (lt1 rfl) (.t rfl) one3 rfl rfl rfl)<| .cons (fun d_ => .add (lt1 rfl) (.t rfl) (.t rfl))<| .cons (fun d_ => .fieldP (lt1 rfl) (.t rfl) fld32_2)<| .cons (fun d_ => .loadP (lt1 rfl) (.t rfl) one3 rfl rfl rfl)<| .cons (fun d_ => .fieldP (lt1 rfl) (.t rfl) fld32_3)<| .cons (fun d_ => .loadP (lt1 rfl) (.t rfl) one3 rfl rfl rfl)<| .cons (fun d_ => .add (lt1 rfl) (.t rfl) (.t rfl))<| .cons (fun d_ => .add (lt1 rfl) (.t rfl) (.const _ _ _))<| .ycall (σ := sgT [(1,2),(2,3),(3,1),(4,8),(5,7),(6,6),(7,4),(8,5),(9,9)]) (us' := []) (avs := [iW (0 : Int),iW (IntKind.wrap .i64 (a4_b2 + a4_b3)),iW (IntKind.wrap .i64 ((IntKind.wrap .i64 (a4_b2 + a4_b3)) + (1 : Int)))]) (cs' := [.ptr 1 0,.ptr 3 0,.ptr 4 0,.ptr 6 0,.ptr 7 0,.ptr 8 0,.ptr 9 0]) hJ hJx hR hq_6 (lt1 rfl) (fun d_ => .tmp rfl) (y73 (β1 := β1) (β2 := β2) n l (0 : Int) (IntKind.wrap .i64 (a4_b2 + a4_b3)) (IntKind.wrap .i64 ((IntKind.wrap .i64 (a4_b2 + a4_b3)) + (1 : Int))) a2_b0_b a1_b0 l7_1 a3_b0 a4_b0 a4_b1 a4_b2 a4_b3 hy_5) (fun d_ => .nil) (fun d_ => .cons (.const _ _ _) (.ren rfl) (.cons (.t rfl) (.ren rfl) (.cons (.t rfl) (.ren rfl) (.nil)))) (fun d_ => .cons (.ren rfl) (.cons (.ren rfl) (.cons (.ren rfl) (.cons (.ren rfl) (.cons (.ren rfl) (.cons (.ren rfl) (.cons (.ren rfl) (.nil)))))))) (fun d_ b_ x_ => (CallOk.mk' (.c rfl (.c rfl (.c rfl (.c rfl (.c rfl (.c rfl (.c rfl (.c rfl (.c rfl (.n)))))))))) rfl)) (fun o_7 d_ =>  ARun.nil _ _ _)) ?_ (fun x_8 => ?_)
 ·obtain rfl := Option.some.inj h
  exact ⟨.inr rfl,.inl rfl⟩
 ·exact ⟨.inr rfl,.inr rfl⟩
theorem c45 {β1 : Bool} {β2 : Bool} (n : Nat) (a0 : R23) (a1 : Int) {r : ((List (List Int)) × Int)} (h : m45 n a0 a1 = some r) : Spec Try.prog 45 [] [.agg [rW β1 a0.Lengths eW,rW β2 a0.Demand eW,iW a0.Stock,iW a0.Kerf],iW a1] [] (.tup [rW false r.1 encL3,iW r.2]) [] := by
 refine Spec.ofR (fun r : ((List (List Int)) × Int) => .tup [rW false r.1 encL3,iW r.2]) (fun r : ((List (List Int)) × Int) => []) (rr := r) (fn := Try.f45) Try.func45 Try.ntmps45 rfl rfl (le1 rfl) (fun w0 Zs Zb T0 ι0 => ?_)
 unfold m45 at h
 refine AWPF.seq ?_
 refine AWPF.of fun d_ => AWP.region (.cons (.box (t := 1) (n := 4) (lt1 rfl) (nm rfl) (.t rfl) (by first | exact ⟨rfl,rfl⟩ | rfl) rfl)<| .cons (.alloc (t := 2) (k := ⟨28,false,[.sc (.slice none 0 0)]⟩) (lt1 rfl) (nm rfl) zero28 rfl rfl)<| .cons (.alloc (t := 3) (k := ⟨29,false,[iW (0 : Int)]⟩) (lt1 rfl) (nm rfl) zero29 rfl rfl)<| ARun.nil _ _ _) ?_
 refine AWPF.vc (s' := ⟨[(1,iW a1),(2,.ptr 1 0),(4,.ptr 2 0),(5,.ptr 3 0)],[(3,⟨29,false,[iW (0 : Int)]⟩),(2,⟨28,false,[.sc (.slice none 0 0)]⟩),(1,⟨32,false,[rW β1 a0.Lengths eW,rW β2 a0.Demand eW,iW a0.Stock,iW a0.Kerf]⟩)]⟩) (fun d_ => VC.sub (.of rfl) (.of rfl)) ?_
 refine AWPF.seq ?_
 refine AWPF.of fun d_ => AWP.region (.cons (.alloc (t := 4) (k := ⟨28,false,[.sc (.slice none 0 0)]⟩) (lt1 rfl) (nm rfl) zero28 rfl rfl)<| ARun.nil _ _ _) ?_
 refine AWPF.vc (s' := ⟨[(1,iW a1),(2,.ptr 1 0),(4,.ptr 2 0),(5,.ptr 3 0),(6,.ptr 4 0)],[(4,⟨28,false,[.sc (.slice none 0 0)]⟩),(3,⟨29,false,[iW (0 : Int)]⟩),(2,⟨28,false,[.sc (.slice none 0 0)]⟩),(1,⟨32,false,[rW β1 a0.Lengths eW,rW β2 a0.Demand eW,iW a0.Stock,iW a0.Kerf]⟩)]⟩) (fun d_ => VC.sub (.of rfl) (.of rfl)) ?_
 refine AWPF.seq ?_
 refine AWPF.seq ?_
 obtain ⟨y_1,hy_1,h⟩ := bindS h
 obtain ⟨c_2,hc_2,h⟩ := letS h
 obtain ⟨c_3,hc_3,h⟩ := letS h
 obtain ⟨c_4,hc_4,h⟩ := letS h
 obtain ⟨c_5,hc_5,h⟩ := letS h
 obtain ⟨c_6,hc_6,h⟩ := letS h
 refine AWPF.of fun d_ => AWP.region (.cons (.loadPA (lt1 rfl) (.t rfl) agg32 rfl rfl rfl rfl)<| .cons (.move (lt1 rfl) (.t rfl))<| .cons (.call (σ := sgT [(5,5),(4,6),(3,7),(2,8),(1,9)]) (bw := false) (lt1 rfl) (c63 (β1 := β1) (β2 := β2) n (R23.mk a0.Lengths a0.Demand a0.Stock a0.Kerf) a1 hy_1) (.cons (.t rfl) (.ren rfl) (.cons (.t rfl) (.ren rfl) (.nil))) (CallOk.mk' (.n) rfl))<| ARun.nil _ _ _) ?_
 refine AWPF.vc (s' := ⟨[(4,.ptr 2 0),(5,.ptr 3 0),(6,.ptr 4 0),(10,.clo (.func 72) [] [.ptr 7 0,.ptr 5 0,.ptr 8 0,.ptr 9 0])],[(5,⟨22,false,[.own 6 1 0 y_1.length]⟩),(6,⟨3,true,y_1.flatMap eW⟩),(7,⟨3,false,[iW c_2]⟩),(8,⟨3,false,[iW a1]⟩),(9,⟨32,false,[rW β1 c_3 eW,rW β2 c_4 eW,iW c_5,iW c_6]⟩),(4,⟨28,false,[.sc (.slice none 0 0)]⟩),(3,⟨29,false,[iW (0 : Int)]⟩),(2,⟨28,false,[.sc (.slice none 0 0)]⟩)]⟩) (fun d_ => by subst hc_2 hc_3 hc_4 hc_5 hc_6; exact VC.sub (.of rfl) (.of rfl)) ?_
 refine AWPF.block ?_
 refine AWPF.vc (fun d_ => VC.trans (VC.newTag (t := 10) (E := 22) (nm rfl)) (VC.cell (t := 4) (i := 0) (v' := .own 10 1 0 0) rfl rfl rfl (fun _ _ _ _ h => nil_own h))) ?_
 obtain ⟨y_7,hy_7,h⟩ := bindS h
 obtain ⟨k_16,hkk_16,h⟩ := jnE h
 refine AWPF.rangeG (σ := sgT [(1,7),(2,5),(3,6),(4,8),(5,9)]) (Hp := fun x_13 : Int × (List (List Int)) => [(2,⟨28,false,[.sc (.slice none 0 0)]⟩),(3,⟨29,false,[iW x_13.1]⟩),(4,⟨28,false,[.own 10 1 0 x_13.2.length]⟩),(10,⟨22,true,x_13.2.flatMap encL3⟩)]) (Hb := fun (e_8 : (List Int)) (x_13 : Int × (List (List Int))) => [(2,⟨28,false,[.sc (.slice none 0 0)]⟩),(3,⟨29,false,[iW x_13.1]⟩),(4,⟨28,false,[.own 10 1 0 x_13.2.length]⟩),(10,⟨22,true,x_13.2.flatMap encL3⟩)]) (env := [(4,.ptr 2 0),(5,.ptr 3 0),(6,.ptr 4 0)]) (x0 := ((0 : Int),([] : List (List Int)))) (KB := [2,3,4]) (envb := fun (e_8 : (List Int)) (x_13 : Int × (List (List Int))) => [(4,.ptr 2 0),(5,.ptr 3 0),(6,.ptr 4 0),(7,rW false e_8 eW)]) (M := fun e_ x_ => (e_ = .ret ∧ k_16 x_ = some r)) (i72 (β1 := β1) (β2 := β2) n c_2 y_1 a1 c_3 c_4 c_5 c_6 hy_7) (fun d_ => .tmp rfl) (fun d_ => .cons (.ren rfl) (.cons (.ren rfl) (.cons (.ren rfl) (.cons (.ren rfl) (.nil))))) (.c rfl (.c rfl (.c rfl (.c rfl (.c rfl (.n)))))) rfl (.of rfl) (.of rfl) rfl h (fun l => ⟨by decide,fun _ => rfl,?_,?_⟩) (fun p_18 h => ?_) (fun e_ x_ h => ?_)
 ·intro w0 Zs Zb T0 ι0 x_13 e_8
  refine AWP.vc (s' := ⟨[(4,.ptr 2 0),(5,.ptr 3 0),(6,.ptr 4 0),(11,rW false e_8 eW)],[(2,⟨28,false,[.sc (.slice none 0 0)]⟩),(3,⟨29,false,[iW x_13.1]⟩),(4,⟨28,false,[.own 10 1 0 x_13.2.length]⟩),(10,⟨22,true,x_13.2.flatMap encL3⟩)]⟩) (VC.sub (.of rfl) (.of rfl)) ?_
  refine AWP.region (.cons (.assign (lt1 rfl) (.t rfl))<| ARun.nil _ _ _) ?_
  exact ⟨rfl,VC.sub (.of rfl) (.of rfl)⟩
 ·intro w0 Zs Zb T0 ι0 nx_14 x_13 e_8 h
  unfold m45_R1 at h
  refine AWP.block ?_
  refine AWP.seq ?_
  refine AWP.seq ?_
  refine AWP.region (.cons (.loadP (lt1 rfl) (.t rfl) one28 rfl rfl rfl)<| .cons (.lenOwn (lt1 rfl) (.t rfl) Try.underlying28)<| .cons (.eql (lt1 rfl) (.t rfl) (.const _ _ _))<| ARun.nil _ _ _) ?_
  refine AWP.vc (s' := ⟨[(4,.ptr 2 0),(5,.ptr 3 0),(6,.ptr 4 0),(7,rW false e_8 eW),(14,bW (decide ((x_13.2.length : Int) = (300 : Int))))],[(2,⟨28,false,[.sc (.slice none 0 0)]⟩),(3,⟨29,false,[iW x_13.1]⟩),(4,⟨28,false,[.own 10 1 0 x_13.2.length]⟩),(10,⟨22,true,x_13.2.flatMap encL3⟩)]⟩) (VC.sub (.of rfl) (.of rfl)) ?_
  refine AWP.cond (.t rfl) (fun hc => ?_) (fun hc => ?_)
  ·have h := iteT hc h
   refine AWP.seq ?_
   refine AWP.region (.cons (.storeP (.t rfl) (.const _ _ _) sz28 rfl (lt1 rfl) rfl (by intro h; cases h) rfl)<| .cons (.storeP (.t rfl) (.const _ _ _) sz29 rfl (lt1 rfl) rfl (by intro h; cases h) rfl)<| ARun.nil _ _ _) ?_
   refine AWP.ret ?_
   exact ⟨((9 : Int),x_13.2),VC.sub (.n _) (.of rfl),.inr ⟨.inl rfl,⟨rfl,h⟩⟩⟩
  ·have h := iteF hc h
   refine AWP.skip ?_
   obtain ⟨l10_17,hl10_17,h⟩ := bindS h
   refine AWP.region (.cons (.loadP (lt1 rfl) (.t rfl) one28 rfl rfl rfl)<| .cons (.move (lt1 rfl) (.t rfl))<| .cons (.buildSlice (t := 11) (out := ([e_8] : List (List Int)).flatMap encL3) (lt1 rfl) (nm rfl) (.cons (.t rfl) (by first | exact ⟨rfl,rfl⟩ | rfl) (.nil)) Try.underlying28 zero22 el22 (by decide) (by decide) rfl (still_all encL3_still _))<| .cons (.app (enc := encL3) (lt1 rfl) (nm rfl) (.t rfl) (Src.own (.t rfl) rfl (lendAll encL3_len _) (flatMap_length encL3_len _) (one_all encL3_one _) (.inl rfl)) Try.underlying28 ⟨_,Try.underlying28,by intro k hk; cases hk⟩ el22 rfl encL3_len rfl rfl (by decide) hl10_17)<| .cons (.storeP (.t rfl) (.t rfl) sz28 rfl (lt1 rfl) rfl (by intro h; cases h) rfl)<| ARun.nil _ _ _) ?_
   exact ⟨(x_13.1,l10_17),VC.sub (.n _) (.of rfl),.inl ⟨rfl,h⟩⟩
 ·refine AWPF.seq ?_
  refine AWPF.of fun d_ => AWP.region (.cons (.loadP (lt1 rfl) (.t rfl) one28 rfl rfl rfl)<| .cons (.storeP (.t rfl) (.t rfl) sz28 rfl (lt1 rfl) rfl (by intro h; cases h) rfl)<| .cons (.storeP (.t rfl) (.const _ _ _) sz29 rfl (lt1 rfl) rfl (by intro h; cases h) rfl)<| ARun.nil _ _ _) ?_
  refine AWPF.ret ?_
  obtain rfl := Option.some.inj h
  refine ⟨.inl rfl,_,rfl,fun w0 Zs Zb T0 ι0 => (Res.vc (s' := ⟨[(4,.ptr 2 0),(5,.ptr 3 0)],[(2,⟨28,false,[rW false p_18.2 encL3]⟩),(3,⟨29,false,[iW (0 : Int)]⟩)]⟩) (VC.trans (VC.trans (VC.freeze (t := 10) rfl) (VC.cellEq (t := 2) (i := 0) (v' := rW false p_18.2 encL3) rfl rfl rfl (frz_rd (enc := encL3) encL3_len p_18.2 false))) (VC.sub (.of rfl) (.of rfl))) ?_)⟩
  refine Res.drop (H := [(2,⟨28,false,[rW false p_18.2 encL3]⟩),(3,⟨29,false,[iW (0 : Int)]⟩)]) rfl ?_
  exact Res.of rfl (.cons (.cell1 rfl one28 rfl rfl rfl) (.cons (.cell1 rfl one29 rfl rfl rfl) (.nil))) rfl rfl
 ·obtain ⟨rfl,h⟩ := h
  subst hkk_16
  revert h
  generalize x_ = p_15
  intro h
  obtain rfl := Option.some.inj h
  refine ⟨.inl rfl,_,rfl,fun w0 Zs Zb T0 ι0 => (Res.vc (s' := ⟨[(4,.ptr 2 0),(5,.ptr 3 0)],[(2,⟨28,false,[rW false ([] : List (List Int)) encL3]⟩),(3,⟨29,false,[iW p_15.1]⟩)]⟩) (VC.trans (VC.cell (t := 2) (i := 0) (v' := rW false ([] : List (List Int)) encL3) rfl rfl rfl (fun _ _ _ _ h => nil_rd h)) (VC.sub (.of rfl) (.of rfl))) ?_)⟩
  refine Res.drop (H := [(2,⟨28,false,[rW false ([] : List (List Int)) encL3]⟩),(3,⟨29,false,[iW p_15.1]⟩)]) rfl ?_
  exact Res.of rfl (.cons (.cell1 rfl one28 rfl rfl rfl) (.cons (.cell1 rfl one29 rfl rfl rfl) (.nil))) rfl rfl
theorem c13 {β1 : Bool} {β2 : Bool} (n : Nat) (a0 : R23) {r : ((List (List Int)) × Int)} (h : m13 n a0 = some r) : Spec Try.prog 13 [] [.agg [rW β1 a0.Lengths eW,rW β2 a0.Demand eW,iW a0.Stock,iW a0.Kerf]] [] (.tup [rW false r.1 encL3,iW r.2]) [] := by
 refine Spec.of (fn := Try.f13) Try.func13 Try.ntmps13 rfl rfl (le1 rfl) (fun w0 Zs Zb T0 ι0 => ?_)
 unfold m13 at h
 refine AWP.seq ?_
 refine AWP.region (.cons (.box (t := 1) (n := 4) (lt1 rfl) (nm rfl) (.t rfl) (by first | exact ⟨rfl,rfl⟩ | rfl) rfl)<| .cons (.assign (lt1 rfl) (.const _ _ _))<| .cons (.assign (lt1 rfl) (.const _ _ _))<| ARun.nil _ _ _) ?_
 refine AWP.vc (s' := ⟨[(1,.ptr 1 0)],[(1,⟨32,false,[rW β1 a0.Lengths eW,rW β2 a0.Demand eW,iW a0.Stock,iW a0.Kerf]⟩)]⟩) (VC.sub (.of rfl) (.of rfl)) ?_
 refine AWP.seq ?_
 refine AWP.seq ?_
 obtain ⟨y_1,hy_1,h⟩ := bindS h
 refine AWP.region (.cons (.loadPA (lt1 rfl) (.t rfl) agg32 rfl rfl rfl rfl)<| .cons (.call0 (bw := false) (lt1 rfl) (c21 (β1 := β1) (β2 := β2) n (R23.mk a0.Lengths a0.Demand a0.Stock a0.Kerf) hy_1) (.cons (.t rfl) (.ren rfl) (.nil)) rfl)<| .cons (.not (lt1 rfl) (.t rfl))<| ARun.nil _ _ _) ?_
 refine AWP.vc (s' := ⟨[(1,.ptr 1 0),(6,bW (!y_1))],[(1,⟨32,false,[rW β1 a0.Lengths eW,rW β2 a0.Demand eW,iW a0.Stock,iW a0.Kerf]⟩)]⟩) (VC.sub (.of rfl) (.of rfl)) ?_
 refine AWP.cond (.t rfl) (fun hc => ?_) (fun hc => ?_)
 ·have h := iteT hc h
  refine AWP.seq ?_
  refine AWP.region (.cons (.assign (lt1 rfl) (.const _ _ _))<| .cons (.assign (lt1 rfl) (.const _ _ _))<| ARun.nil _ _ _) ?_
  refine AWP.ret ?_
  obtain rfl := Option.some.inj h
  refine retJ (Res.vc (s' := ⟨[(2,rW false ([] : List (List Int)) encL3),(3,iW (1 : Int))],[]⟩) (VC.trans (VC.nilRd (d := 2) false rfl) (VC.sub (.of rfl) (.n _))) ?_)
  refine Res.drop (H := []) rfl ?_
  exact Res.of rfl (.cons (.tmp rfl) (.cons (.tmp rfl) (.nil))) rfl rfl
 ·have h := iteF hc h
  refine AWP.skip ?_
  refine AWP.seq ?_
  obtain ⟨y_2,hy_2,h⟩ := bindS h
  refine AWP.region (.cons (.loadPA (lt1 rfl) (.t rfl) agg32 rfl rfl rfl rfl)<| .cons (.call0 (bw := false) (lt1 rfl) (c45 (β1 := β1) (β2 := β2) n (R23.mk a0.Lengths a0.Demand a0.Stock a0.Kerf) (-1 : Int) hy_2) (.cons (.t rfl) (.ren rfl) (.cons (.const _ _ _) (.ren rfl) (.nil))) rfl)<| .cons (.extract (lt1 rfl) (.t rfl) rfl)<| .cons (.extract (lt1 rfl) (.t rfl) rfl)<| .cons (.assign (lt1 rfl) (.t rfl))<| .cons (.assign (lt1 rfl) (.t rfl))<| ARun.nil _ _ _) ?_
  refine AWP.ret ?_
  obtain rfl := Option.some.inj h
  refine retJ (Res.vc (s' := ⟨[(2,rW false y_2.1 encL3),(3,iW y_2.2)],[]⟩) (VC.sub (.of rfl) (.n _)) ?_)
  refine Res.drop (H := []) rfl ?_
  exact Res.of rfl (.cons (.tmp rfl) (.cons (.tmp rfl) (.nil))) rfl rfl
theorem c22 {β1 : Bool} {β2 : Bool} (n : Nat) (a0 : R23) {r : (Int × Int)} (h : m22 n a0 = some r) : Spec Try.prog 22 [] [.agg [rW β1 a0.Lengths eW,rW β2 a0.Demand eW,iW a0.Stock,iW a0.Kerf]] [] (.tup [iW r.1,iW r.2]) [] := by
 refine Spec.of (fn := Try.f22) Try.func22 Try.ntmps22 rfl rfl (le1 rfl) (fun w0 Zs Zb T0 ι0 => ?_)
 unfold m22 at h
 refine AWP.seq ?_
 refine AWP.region (.cons (.box (t := 1) (n := 4) (lt1 rfl) (nm rfl) (.t rfl) (by first | exact ⟨rfl,rfl⟩ | rfl) rfl)<| .cons (.assign (lt1 rfl) (.const _ _ _))<| .cons (.assign (lt1 rfl) (.const _ _ _))<| ARun.nil _ _ _) ?_
 refine AWP.vc (s' := ⟨[(1,.ptr 1 0)],[(1,⟨32,false,[rW β1 a0.Lengths eW,rW β2 a0.Demand eW,iW a0.Stock,iW a0.Kerf]⟩)]⟩) (VC.sub (.of rfl) (.of rfl)) ?_
 refine AWP.seq ?_
 refine AWP.seq ?_
 obtain ⟨y_1,hy_1,h⟩ := bindS h
 refine AWP.region (.cons (.loadPA (lt1 rfl) (.t rfl) agg32 rfl rfl rfl rfl)<| .cons (.call0 (bw := false) (lt1 rfl) (c21 (β1 := β1) (β2 := β2) n (R23.mk a0.Lengths a0.Demand a0.Stock a0.Kerf) hy_1) (.cons (.t rfl) (.ren rfl) (.nil)) rfl)<| .cons (.not (lt1 rfl) (.t rfl))<| ARun.nil _ _ _) ?_
 refine AWP.vc (s' := ⟨[(1,.ptr 1 0),(10,bW (!y_1))],[(1,⟨32,false,[rW β1 a0.Lengths eW,rW β2 a0.Demand eW,iW a0.Stock,iW a0.Kerf]⟩)]⟩) (VC.sub (.of rfl) (.of rfl)) ?_
 refine AWP.cond (.t rfl) (fun hc => ?_) (fun hc => ?_)
 ·have h := iteT hc h
  refine AWP.seq ?_
  refine AWP.region (.cons (.assign (lt1 rfl) (.const _ _ _))<| .cons (.assign (lt1 rfl) (.const _ _ _))<| ARun.nil _ _ _) ?_
  refine AWP.ret ?_
  obtain rfl := Option.some.inj h
  refine retJ (Res.vc (s' := ⟨[(2,iW (0 : Int)),(3,iW (1 : Int))],[]⟩) (VC.sub (.of rfl) (.n _)) ?_)
  refine Res.drop (H := []) rfl ?_
  exact Res.of rfl (.cons (.tmp rfl) (.cons (.tmp rfl) (.nil))) rfl rfl
 ·have h := iteF hc h
  refine AWP.skip ?_
  refine AWP.seq ?_
  refine AWP.region (.cons (.assign (lt1 rfl) (.const _ _ _))<| ARun.nil _ _ _) ?_
  refine AWP.vc (s' := ⟨[(1,.ptr 1 0),(4,iW (0 : Int))],[(1,⟨32,false,[rW β1 a0.Lengths eW,rW β2 a0.Demand eW,iW a0.Stock,iW a0.Kerf]⟩)]⟩) (VC.sub (.of rfl) (.of rfl)) ?_
  refine AWP.seq ?_
  refine AWP.seq ?_
  refine AWP.region (.cons (.fieldP (lt1 rfl) (.t rfl) fld32_1)<| .cons (.loadP (lt1 rfl) (.t rfl) one22 rfl rfl rfl)<| .cons (.lenRd (lt1 rfl) (.t rfl) Try.underlying22)<| .cons (.move (lt1 rfl) (.const _ _ _))<| ARun.nil _ _ _) ?_
  refine AWP.vc (s' := ⟨[(1,.ptr 1 0),(4,iW (0 : Int)),(12,rW β2 a0.Demand eW),(13,iW (a0.Demand.length : Int)),(14,iW (0 : Int))],[(1,⟨32,false,[rW β1 a0.Lengths eW,rW β2 a0.Demand eW,iW a0.Stock,iW a0.Kerf]⟩)]⟩) (VC.sub (.of rfl) (.of rfl)) ?_
  refine AWP.joinB' (S := fun p_13 : Int => ⟨[(1,.ptr 1 0),(4,iW p_13)],[(1,⟨32,false,[rW β1 a0.Lengths eW,rW β2 a0.Demand eW,iW a0.Stock,iW a0.Kerf]⟩)]⟩) h (fun p_13 h => ?_) (fun k_14 h => ?_)
  ·refine AWP.seq ?_
   obtain ⟨t7_15,ht7_15,h⟩ := letS h
   refine AWP.region (.cons (.fieldP (lt1 rfl) (.t rfl) fld32_2)<| .cons (.loadP (lt1 rfl) (.t rfl) one3 rfl rfl rfl)<| .cons (.fieldP (lt1 rfl) (.t rfl) fld32_3)<| .cons (.loadP (lt1 rfl) (.t rfl) one3 rfl rfl rfl)<| .cons (.add (lt1 rfl) (.t rfl) (.t rfl))<| .cons (.assign (lt1 rfl) (.t rfl))<| ARun.nil _ _ _) ?_
   refine AWP.vc (s' := ⟨[(4,iW p_13),(7,iW t7_15)],[]⟩) (by subst ht7_15; exact VC.sub (.of rfl) (.n _)) ?_
   refine AWP.seq ?_
   obtain ⟨ha_16,h⟩ := asrtS h
   obtain ⟨t2_17,ht2_17,h⟩ := letS h
   refine AWP.region (.cons (.move (lt1 rfl) (.t rfl))<| .cons (.move (lt1 rfl) (.t rfl))<| .cons (.add (lt1 rfl) (.t rfl) (.t rfl))<| .cons (.sub (lt1 rfl) (.t rfl) (.const _ _ _))<| .cons (.move (lt1 rfl) (.t rfl))<| .cons (.quo (lt1 rfl) (.t rfl) (.t rfl) ha_16)<| .cons (.assign (lt1 rfl) (.t rfl))<| .cons (.assign (lt1 rfl) (.const _ _ _))<| ARun.nil _ _ _) ?_
   refine AWP.ret ?_
   obtain rfl := Option.some.inj h
   refine retJ (Res.vc (s' := ⟨[(2,iW t2_17),(3,iW (0 : Int))],[]⟩) (by subst ht2_17; exact VC.sub (.of rfl) (.n _)) ?_)
   refine Res.drop (H := []) rfl ?_
   exact Res.of rfl (.cons (.tmp rfl) (.cons (.tmp rfl) (.nil))) rfl rfl
  ·refine AWP.vc (s' := ⟨[(1,.ptr 1 0),(4,iW (0 : Int)),(12,rW β2 a0.Demand eW),(13,iW (a0.Demand.length : Int)),(14,iW (0 : Int))],[(1,⟨32,false,[rW β1 a0.Lengths eW,rW β2 a0.Demand eW,iW a0.Stock,iW a0.Kerf]⟩)]⟩) (VC.sub (.of rfl) (.of rfl)) ?_
   refine AWP.loopM (S := fun x_7 : Int × Int => ⟨[(1,.ptr 1 0),(4,iW x_7.1),(12,rW β2 a0.Demand eW),(13,iW (a0.Demand.length : Int)),(14,iW x_7.2)],[(1,⟨32,false,[rW β1 a0.Lengths eW,rW β2 a0.Demand eW,iW a0.Stock,iW a0.Kerf]⟩)]⟩) (x := ((0 : Int),(0 : Int))) (fun nx_8 x_7 h => ?_) h
   unfold m22_L1 at h
   refine AWP.seq ?_
   refine AWP.region (.cons (.lss (lt1 rfl) (.t rfl) (.t rfl))<| ARun.nil _ _ _) ?_
   refine AWP.vc (s' := ⟨[(1,.ptr 1 0),(4,iW x_7.1),(12,rW β2 a0.Demand eW),(13,iW (a0.Demand.length : Int)),(14,iW x_7.2),(15,bW (decide (x_7.2 < (a0.Demand.length : Int))))],[(1,⟨32,false,[rW β1 a0.Lengths eW,rW β2 a0.Demand eW,iW a0.Stock,iW a0.Kerf]⟩)]⟩) (VC.sub (.of rfl) (.of rfl)) ?_
   refine AWP.seq ?_
   refine AWP.cond (.t rfl) (fun hc => ?_) (fun hc => ?_)
   ·have h := iteT hc h
    refine AWP.skip ?_
    refine AWP.seq ?_
    refine AWP.block ?_
    refine AWP.seq ?_
    obtain ⟨y_9,hy_9,h⟩ := bindS h
    refine AWP.region (.cons (.move (lt1 rfl) (.t rfl))<| .cons (.indexRd (enc := eW) (lt1 rfl) (.t rfl) (.t rfl) Try.underlying22 sz3 (encI_len .i64) rfl hy_9)<| .cons (.loadR (v := iW y_9) (lt1 rfl) (.t rfl) one3 rfl)<| .cons (.assign (lt1 rfl) (.t rfl))<| .cons (.assign (lt1 rfl) (.t rfl))<| ARun.nil _ _ _) ?_
    refine AWP.vc (s' := ⟨[(1,.ptr 1 0),(4,iW x_7.1),(12,rW β2 a0.Demand eW),(13,iW (a0.Demand.length : Int)),(14,iW x_7.2),(5,iW x_7.2),(6,iW y_9)],[(1,⟨32,false,[rW β1 a0.Lengths eW,rW β2 a0.Demand eW,iW a0.Stock,iW a0.Kerf]⟩)]⟩) (VC.sub (.of rfl) (.of rfl)) ?_
    obtain ⟨y_10,hy_10,h⟩ := bindS h
    obtain ⟨t4_11,ht4_11,h⟩ := letS h
    refine AWP.region (.cons (.move (lt1 rfl) (.t rfl))<| .cons (.move (lt1 rfl) (.t rfl))<| .cons (.loadPA (lt1 rfl) (.t rfl) agg32 rfl rfl rfl rfl)<| .cons (.move (lt1 rfl) (.t rfl))<| .cons (.call0 (bw := false) (lt1 rfl) (c47 (β1 := β1) (β2 := β2) n (R23.mk a0.Lengths a0.Demand a0.Stock a0.Kerf) x_7.2 hy_10) (.cons (.t rfl) (.ren rfl) (.cons (.t rfl) (.ren rfl) (.nil))) rfl)<| .cons (.mul (lt1 rfl) (.t rfl) (.t rfl))<| .cons (.add (lt1 rfl) (.t rfl) (.t rfl))<| .cons (.assign (lt1 rfl) (.t rfl))<| ARun.nil _ _ _) ?_
    refine AWP.vc (s' := ⟨[(1,.ptr 1 0),(4,iW t4_11),(12,rW β2 a0.Demand eW),(13,iW (a0.Demand.length : Int)),(14,iW x_7.2)],[(1,⟨32,false,[rW β1 a0.Lengths eW,rW β2 a0.Demand eW,iW a0.Stock,iW a0.Kerf]⟩)]⟩) (by subst ht4_11; exact VC.sub (.of rfl) (.of rfl)) ?_
    obtain ⟨t14_12,ht14_12,h⟩ := letS h
    refine AWP.region (.cons (.add (lt1 rfl) (.t rfl) (.const _ _ _))<| .cons (.move (lt1 rfl) (.t rfl))<| ARun.nil _ _ _) ?_
    exact endJ (t4_11,t14_12) h (by subst ht14_12; exact VC.sub (.of rfl) (.of rfl))
   ·have h := iteF hc h
    refine AWP.exit ?_
    exact endJ x_7.1 h (VC.sub (.of rfl) (.of rfl))
theorem c34 {β1 : Bool} {β2 : Bool} (n : Nat) (a0 : (List Int)) (a1 : (List Int)) {r : Bool} (h : m34 n a0 a1 = some r) : Spec Try.prog 34 [] [rW β1 a0 eW,rW β2 a1 eW] [] (bW r) [] := by
 refine Spec.of (fn := Try.f34) Try.func34 Try.ntmps34 rfl rfl (le1 rfl) (fun w0 Zs Zb T0 ι0 => ?_)
 unfold m34 at h
 refine AWP.seq ?_
 refine AWP.region (.cons (.assign (lt1 rfl) (.const _ _ _))<| ARun.nil _ _ _) ?_
 refine AWP.vc (s' := ⟨[(0,rW β1 a0 eW),(1,rW β2 a1 eW)],[]⟩) (VC.sub (.of rfl) (.n _)) ?_
 refine AWP.seq ?_
 refine AWP.seq ?_
 refine AWP.region (.cons (.move (lt1 rfl) (.t rfl))<| .cons (.lenRd (lt1 rfl) (.t rfl) Try.underlying22)<| .cons (.move (lt1 rfl) (.t rfl))<| .cons (.lenRd (lt1 rfl) (.t rfl) Try.underlying22)<| .cons (.neq (lt1 rfl) (.t rfl) (.t rfl))<| ARun.nil _ _ _) ?_
 refine AWP.vc (s' := ⟨[(0,rW β1 a0 eW),(1,rW β2 a1 eW),(10,bW (!decide ((a0.length : Int) = (a1.length : Int))))],[]⟩) (VC.sub (.of rfl) (.n _)) ?_
 refine AWP.cond (.t rfl) (fun hc => ?_) (fun hc => ?_)
 ·have h := iteT hc h
  refine AWP.seq ?_
  refine AWP.region (.cons (.assign (lt1 rfl) (.const _ _ _))<| ARun.nil _ _ _) ?_
  refine AWP.ret ?_
  obtain rfl := Option.some.inj h
  refine retJ (Res.vc (s' := ⟨[(4,bW false)],[]⟩) (VC.sub (.of rfl) (.n _)) ?_)
  refine Res.drop (H := []) rfl ?_
  exact Res.of rfl (.cons (.tmp rfl) (.nil)) rfl rfl
 ·have h := iteF hc h
  refine AWP.skip ?_
  refine AWP.seq ?_
  refine AWP.seq ?_
  refine AWP.region (.cons (.assign (lt1 rfl) (.const _ _ _))<| ARun.nil _ _ _) ?_
  refine AWP.vc (s' := ⟨[(0,rW β1 a0 eW),(1,rW β2 a1 eW),(5,iW (0 : Int))],[]⟩) (VC.sub (.of rfl) (.n _)) ?_
  refine AWP.joinB' (S := fun p_10 : Unit => ⟨[],[]⟩) h (fun p_10 h => ?_) (fun k_11 h => ?_)
  ·refine AWP.seq ?_
   refine AWP.region (.cons (.assign (lt1 rfl) (.const _ _ _))<| ARun.nil _ _ _) ?_
   refine AWP.ret ?_
   obtain rfl := Option.some.inj h
   refine retJ (Res.vc (s' := ⟨[(4,bW true)],[]⟩) (VC.sub (.of rfl) (.n _)) ?_)
   refine Res.drop (H := []) rfl ?_
   exact Res.of rfl (.cons (.tmp rfl) (.nil)) rfl rfl
  ·refine AWP.vc (s' := ⟨[(0,rW β1 a0 eW),(1,rW β2 a1 eW),(5,iW (0 : Int))],[]⟩) (VC.sub (.of rfl) (.n _)) ?_
   refine AWP.loopM (S := fun x_5 : Int => ⟨[(0,rW β1 a0 eW),(1,rW β2 a1 eW),(5,iW x_5)],[]⟩) (x := (0 : Int)) (fun nx_6 x_5 h => ?_) h
   unfold m34_L1 at h
   refine AWP.seq ?_
   refine AWP.seq ?_
   refine AWP.region (.cons (.move (lt1 rfl) (.t rfl))<| .cons (.move (lt1 rfl) (.t rfl))<| .cons (.lenRd (lt1 rfl) (.t rfl) Try.underlying22)<| .cons (.lss (lt1 rfl) (.t rfl) (.t rfl))<| ARun.nil _ _ _) ?_
   refine AWP.vc (s' := ⟨[(0,rW β1 a0 eW),(1,rW β2 a1 eW),(5,iW x_5),(14,bW (decide (x_5 < (a0.length : Int))))],[]⟩) (VC.sub (.of rfl) (.n _)) ?_
   refine AWP.cond (.t rfl) (fun hc => ?_) (fun hc => ?_)
   ·have h := iteT hc h
    refine AWP.skip ?_
    refine AWP.seq ?_
    refine AWP.block ?_
    refine AWP.seq ?_
    obtain ⟨y_7,hy_7,h⟩ := bindS h
    obtain ⟨y_8,hy_8,h⟩ := bindS h
    refine AWP.draw (s' := ⟨[(0,rW β1 a0 eW),(1,rW β2 a1 eW),(5,iW x_5),(25,bW (!decide (y_7 = y_8)))],[]⟩) mixed [⟨0,rW β1 a0 eW,none,[]⟩,⟨1,rW β2 a1 eW,none,[]⟩,⟨5,iW x_5,none,[]⟩,⟨14,bW (decide (x_5 < (a0.length : Int))),none,[]⟩,⟨17,rW β1 a0 eW,some 0,[]⟩,⟨18,iW x_5,some 1,[]⟩,⟨19,.rptr β1 [iW y_7],some 2,[]⟩,⟨20,iW y_7,some 3,[]⟩,⟨21,rW β2 a1 eW,some 4,[]⟩,⟨22,iW x_5,some 5,[]⟩,⟨23,.rptr β2 [iW y_8],some 6,[]⟩,⟨24,iW y_8,some 7,[]⟩,⟨25,bW (!decide (y_7 = y_8)),some 8,[]⟩] [⟨[0],0,0,some (17,rW β1 a0 eW),[]⟩,⟨[2],0,0,some (18,iW x_5),[]⟩,⟨[4,5],0,0,some (19,.rptr β1 [iW y_7]),[]⟩,⟨[6],0,0,some (20,iW y_7),[]⟩,⟨[1],0,0,some (21,rW β2 a1 eW),[]⟩,⟨[2],0,0,some (22,iW x_5),[]⟩,⟨[8,9],0,0,some (23,.rptr β2 [iW y_8]),[]⟩,⟨[10],0,0,some (24,iW y_8),[]⟩,⟨[7,11],0,0,some (25,bW (!decide (y_7 = y_8))),[]⟩] [] [[]] [[],[],[0,1],[0,1,2],[],[],[4,5],[4,5,6],[0,1,2,3,4,5,6,7]] (by kernel_rfl) (by kernel_rfl) (BornL.ok (.o<| .o<| .o<| .o<| .b rfl rfl<| .b rfl rfl<| .b rfl rfl<| .b rfl rfl<| .b rfl rfl<| .b rfl rfl<| .b rfl rfl<| .b rfl rfl<| .b rfl rfl<| .n)) (BaseL.ok (.o rfl<| .o rfl<| .o rfl<| .o rfl<| .b<| .b<| .b<| .b<| .b<| .b<| .b<| .b<| .b<| .n)) rfl (by decide) (allLt rfl) (.pure rfl (fun H => .put (fun E hE => .move (lt1 rfl) (.tmp (hE.at (k := 0) rfl))))<| .pure rfl (fun H => .put (fun E hE => .move (lt1 rfl) (.tmp (hE.at (k := 0) rfl))))<| .pure rfl (fun H => .put (fun E hE => .indexRd (enc := eW) (lt1 rfl) (.tmp (hE.at (k := 0) rfl)) (.tmp (hE.at (k := 1) rfl)) Try.underlying22 sz3 (encI_len .i64) rfl hy_7))<| .pure rfl (fun H => .put (fun E hE => .loadR (v := iW y_7) (lt1 rfl) (.tmp (hE.at (k := 0) rfl)) one3 rfl))<| .pure rfl (fun H => .put (fun E hE => .move (lt1 rfl) (.tmp (hE.at (k := 0) rfl))))<| .pure rfl (fun H => .put (fun E hE => .move (lt1 rfl) (.tmp (hE.at (k := 0) rfl))))<| .pure rfl (fun H => .put (fun E hE => .indexRd (enc := eW) (lt1 rfl) (.tmp (hE.at (k := 0) rfl)) (.tmp (hE.at (k := 1) rfl)) Try.underlying22 sz3 (encI_len .i64) rfl hy_8))<| .pure rfl (fun H => .put (fun E hE => .loadR (v := iW y_8) (lt1 rfl) (.tmp (hE.at (k := 0) rfl)) one3 rfl))<| .pure rfl (fun H => .put (fun E hE => .neq (lt1 rfl) (.tmp (hE.at (k := 0) rfl)) (.tmp (hE.at (k := 1) rfl))))<| .nil _) (fun E hE => .c (DInv.at hE (k := 0) rfl rfl rfl)<| .c (DInv.at hE (k := 1) rfl rfl rfl)<| .c (DInv.at hE (k := 2) rfl rfl rfl)<| .c (DInv.at hE (k := 12) rfl rfl rfl)<| .n _) rfl ?_
    refine AWP.vc (s' := ⟨[(0,rW β1 a0 eW),(1,rW β2 a1 eW),(5,iW x_5),(25,bW (!decide (y_7 = y_8)))],[]⟩) (VC.sub (.of rfl) (.n _)) ?_
    refine AWP.cond (.t rfl) (fun hc => ?_) (fun hc => ?_)
    ·have h := iteT hc h
     refine AWP.seq ?_
     refine AWP.region (.cons (.assign (lt1 rfl) (.const _ _ _))<| ARun.nil _ _ _) ?_
     refine AWP.ret ?_
     obtain rfl := Option.some.inj h
     refine retJ (Res.vc (s' := ⟨[(4,bW false)],[]⟩) (VC.sub (.of rfl) (.n _)) ?_)
     refine Res.drop (H := []) rfl ?_
     exact Res.of rfl (.cons (.tmp rfl) (.nil)) rfl rfl
    ·have h := iteF hc h
     refine AWP.skip ?_
     obtain ⟨t5_9,ht5_9,h⟩ := letS h
     refine AWP.region (.cons (.move (lt1 rfl) (.t rfl))<| .cons (.add (lt1 rfl) (.t rfl) (.const _ _ _))<| .cons (.assign (lt1 rfl) (.t rfl))<| ARun.nil _ _ _) ?_
     exact endJ t5_9 h (by subst ht5_9; exact VC.sub (.of rfl) (.n _))
   ·have h := iteF hc h
    refine AWP.exit ?_
    exact endJ () h (VC.sub (.n _) (.n _))
theorem c20 {β1 : Bool} {β2 : Bool} (n : Nat) (a0 : (List (List Int))) (a1 : (List (List Int))) {r : Bool} (h : m20 n a0 a1 = some r) : Spec Try.prog 20 [] [rW β1 a0 encL3,rW β2 a1 encL3] [] (bW r) [] := by
 refine Spec.of (fn := Try.f20) Try.func20 Try.ntmps20 rfl rfl (le1 rfl) (fun w0 Zs Zb T0 ι0 => ?_)
 unfold m20 at h
 refine AWP.seq ?_
 refine AWP.region (.cons (.assign (lt1 rfl) (.const _ _ _))<| ARun.nil _ _ _) ?_
 refine AWP.vc (s' := ⟨[(0,rW β1 a0 encL3),(1,rW β2 a1 encL3)],[]⟩) (VC.sub (.of rfl) (.n _)) ?_
 refine AWP.seq ?_
 refine AWP.seq ?_
 refine AWP.region (.cons (.move (lt1 rfl) (.t rfl))<| .cons (.lenRd (lt1 rfl) (.t rfl) Try.underlying28)<| .cons (.move (lt1 rfl) (.t rfl))<| .cons (.lenRd (lt1 rfl) (.t rfl) Try.underlying28)<| .cons (.neq (lt1 rfl) (.t rfl) (.t rfl))<| ARun.nil _ _ _) ?_
 refine AWP.vc (s' := ⟨[(0,rW β1 a0 encL3),(1,rW β2 a1 encL3),(10,bW (!decide ((a0.length : Int) = (a1.length : Int))))],[]⟩) (VC.sub (.of rfl) (.n _)) ?_
 refine AWP.cond (.t rfl) (fun hc => ?_) (fun hc => ?_)
 ·have h := iteT hc h
  refine AWP.seq ?_
  refine AWP.region (.cons (.assign (lt1 rfl) (.const _ _ _))<| ARun.nil _ _ _) ?_
  refine AWP.ret ?_
  obtain rfl := Option.some.inj h
  refine retJ (Res.vc (s' := ⟨[(4,bW false)],[]⟩) (VC.sub (.of rfl) (.n _)) ?_)
  refine Res.drop (H := []) rfl ?_
  exact Res.of rfl (.cons (.tmp rfl) (.nil)) rfl rfl
 ·have h := iteF hc h
  refine AWP.skip ?_
  refine AWP.seq ?_
  refine AWP.seq ?_
  refine AWP.region (.cons (.assign (lt1 rfl) (.const _ _ _))<| ARun.nil _ _ _) ?_
  refine AWP.vc (s' := ⟨[(0,rW β1 a0 encL3),(1,rW β2 a1 encL3),(5,iW (0 : Int))],[]⟩) (VC.sub (.of rfl) (.n _)) ?_
  refine AWP.joinB' (S := fun p_12 : Unit => ⟨[],[]⟩) h (fun p_12 h => ?_) (fun k_13 h => ?_)
  ·refine AWP.seq ?_
   refine AWP.region (.cons (.assign (lt1 rfl) (.const _ _ _))<| ARun.nil _ _ _) ?_
   refine AWP.ret ?_
   obtain rfl := Option.some.inj h
   refine retJ (Res.vc (s' := ⟨[(4,bW true)],[]⟩) (VC.sub (.of rfl) (.n _)) ?_)
   refine Res.drop (H := []) rfl ?_
   exact Res.of rfl (.cons (.tmp rfl) (.nil)) rfl rfl
  ·refine AWP.vc (s' := ⟨[(0,rW β1 a0 encL3),(1,rW β2 a1 encL3),(5,iW (0 : Int))],[]⟩) (VC.sub (.of rfl) (.n _)) ?_
   refine AWP.loopM (S := fun x_6 : Int => ⟨[(0,rW β1 a0 encL3),(1,rW β2 a1 encL3),(5,iW x_6)],[]⟩) (x := (0 : Int)) (fun nx_7 x_6 h => ?_) h
   unfold m20_L1 at h
   refine AWP.seq ?_
   refine AWP.seq ?_
   refine AWP.region (.cons (.move (lt1 rfl) (.t rfl))<| .cons (.move (lt1 rfl) (.t rfl))<| .cons (.lenRd (lt1 rfl) (.t rfl) Try.underlying28)<| .cons (.lss (lt1 rfl) (.t rfl) (.t rfl))<| ARun.nil _ _ _) ?_
   refine AWP.vc (s' := ⟨[(0,rW β1 a0 encL3),(1,rW β2 a1 encL3),(5,iW x_6),(14,bW (decide (x_6 < (a0.length : Int))))],[]⟩) (VC.sub (.of rfl) (.n _)) ?_
   refine AWP.cond (.t rfl) (fun hc => ?_) (fun hc => ?_)
   ·have h := iteT hc h
    refine AWP.skip ?_
    refine AWP.seq ?_
    refine AWP.block ?_
    refine AWP.seq ?_
    obtain ⟨y_8,hy_8,h⟩ := bindS h
    obtain ⟨y_9,hy_9,h⟩ := bindS h
    obtain ⟨y_10,hy_10,h⟩ := bindS h
    refine AWP.draw (s' := ⟨[(0,rW β1 a0 encL3),(1,rW β2 a1 encL3),(5,iW x_6),(26,bW (!y_10))],[]⟩) mixed [⟨0,rW β1 a0 encL3,none,[]⟩,⟨1,rW β2 a1 encL3,none,[]⟩,⟨5,iW x_6,none,[]⟩,⟨14,bW (decide (x_6 < (a0.length : Int))),none,[]⟩,⟨17,rW β1 a0 encL3,some 0,[]⟩,⟨18,iW x_6,some 1,[]⟩,⟨19,.rptr β1 [rW false y_8 eW],some 2,[]⟩,⟨20,rW β1 y_8 eW,some 3,[]⟩,⟨21,rW β2 a1 encL3,some 4,[]⟩,⟨22,iW x_6,some 5,[]⟩,⟨23,.rptr β2 [rW false y_9 eW],some 6,[]⟩,⟨24,rW β2 y_9 eW,some 7,[]⟩,⟨25,bW y_10,some 8,[]⟩,⟨26,bW (!y_10),some 9,[]⟩] [⟨[0],0,0,some (17,rW β1 a0 encL3),[]⟩,⟨[2],0,0,some (18,iW x_6),[]⟩,⟨[4,5],0,0,some (19,.rptr β1 [rW false y_8 eW]),[]⟩,⟨[6],0,0,some (20,rW β1 y_8 eW),[]⟩,⟨[1],0,0,some (21,rW β2 a1 encL3),[]⟩,⟨[2],0,0,some (22,iW x_6),[]⟩,⟨[8,9],0,0,some (23,.rptr β2 [rW false y_9 eW]),[]⟩,⟨[10],0,0,some (24,rW β2 y_9 eW),[]⟩,⟨[7,11],0,0,some (25,bW y_10),[]⟩,⟨[12],0,0,some (26,bW (!y_10)),[]⟩] [] [[]] [[],[],[0,1],[0,1,2],[],[],[4,5],[4,5,6],[0,1,2,3,4,5,6,7],[0,1,2,3,4,5,6,7,8]] (by kernel_rfl) (by kernel_rfl) (BornL.ok (.o<| .o<| .o<| .o<| .b rfl rfl<| .b rfl rfl<| .b rfl rfl<| .b rfl rfl<| .b rfl rfl<| .b rfl rfl<| .b rfl rfl<| .b rfl rfl<| .b rfl rfl<| .b rfl rfl<| .n)) (BaseL.ok (.o rfl<| .o rfl<| .o rfl<| .o rfl<| .b<| .b<| .b<| .b<| .b<| .b<| .b<| .b<| .b<| .b<| .n)) rfl (by decide) (allLt rfl) (.pure rfl (fun H => .put (fun E hE => .move (lt1 rfl) (.tmp (hE.at (k := 0) rfl))))<| .pure rfl (fun H => .put (fun E hE => .move (lt1 rfl) (.tmp (hE.at (k := 0) rfl))))<| .pure rfl (fun H => .put (fun E hE => .indexRd (enc := encL3) (lt1 rfl) (.tmp (hE.at (k := 0) rfl)) (.tmp (hE.at (k := 1) rfl)) Try.underlying28 sz22 encL3_len rfl hy_8))<| .pure rfl (fun H => .put (fun E hE => .loadR (v := rW β1 y_8 eW) (lt1 rfl) (.tmp (hE.at (k := 0) rfl)) one22 rfl))<| .pure rfl (fun H => .put (fun E hE => .move (lt1 rfl) (.tmp (hE.at (k := 0) rfl))))<| .pure rfl (fun H => .put (fun E hE => .move (lt1 rfl) (.tmp (hE.at (k := 0) rfl))))<| .pure rfl (fun H => .put (fun E hE => .indexRd (enc := encL3) (lt1 rfl) (.tmp (hE.at (k := 0) rfl)) (.tmp (hE.at (k := 1) rfl)) Try.underlying28 sz22 encL3_len rfl hy_9))<| .pure rfl (fun H => .put (fun E hE => .loadR (v := rW β2 y_9 eW) (lt1 rfl) (.tmp (hE.at (k := 0) rfl)) one22 rfl))<| .pure rfl (fun H => .put (fun E hE => .call0 (bw := false) (lt1 rfl) (c34 (β1 := β1) (β2 := β2) n y_8 y_9 hy_10) (.cons (.tmp (hE.at (k := 0) rfl)) (.ren rfl) (.cons (.tmp (hE.at (k := 1) rfl)) (.ren rfl) (.nil))) rfl))<| .pure rfl (fun H => .put (fun E hE => .not (lt1 rfl) (.tmp (hE.at (k := 0) rfl))))<| .nil _) (fun E hE => .c (DInv.at hE (k := 0) rfl rfl rfl)<| .c (DInv.at hE (k := 1) rfl rfl rfl)<| .c (DInv.at hE (k := 2) rfl rfl rfl)<| .c (DInv.at hE (k := 13) rfl rfl rfl)<| .n _) rfl ?_
    refine AWP.vc (s' := ⟨[(0,rW β1 a0 encL3),(1,rW β2 a1 encL3),(5,iW x_6),(26,bW (!y_10))],[]⟩) (VC.sub (.of rfl) (.n _)) ?_
    refine AWP.cond (.t rfl) (fun hc => ?_) (fun hc => ?_)
    ·have h := iteT hc h
     refine AWP.seq ?_
     refine AWP.region (.cons (.assign (lt1 rfl) (.const _ _ _))<| ARun.nil _ _ _) ?_
     refine AWP.ret ?_
     obtain rfl := Option.some.inj h
     refine retJ (Res.vc (s' := ⟨[(4,bW false)],[]⟩) (VC.sub (.of rfl) (.n _)) ?_)
     refine Res.drop (H := []) rfl ?_
     exact Res.of rfl (.cons (.tmp rfl) (.nil)) rfl rfl
    ·have h := iteF hc h
     refine AWP.skip ?_
     obtain ⟨t5_11,ht5_11,h⟩ := letS h
     refine AWP.region (.cons (.move (lt1 rfl) (.t rfl))<| .cons (.add (lt1 rfl) (.t rfl) (.const _ _ _))<| .cons (.assign (lt1 rfl) (.t rfl))<| ARun.nil _ _ _) ?_
     exact endJ t5_11 h (by subst ht5_11; exact VC.sub (.of rfl) (.n _))
   ·have h := iteF hc h
    refine AWP.exit ?_
    exact endJ () h (VC.sub (.n _) (.n _))
theorem c10 (n : Nat) {r : Bool} (h : m10 n = some r) : Spec Try.prog 10 [] [] [] (bW r) [] := by
 refine Spec.of (fn := Try.f10) Try.func10 Try.ntmps10 rfl rfl (le1 rfl) (fun w0 Zs Zb T0 ι0 => ?_)
 unfold m10 at h
 refine AWP.seq ?_
 refine AWP.region (.cons (.assign (lt1 rfl) (.const _ _ _))<| ARun.nil _ _ _) ?_
 refine AWP.vc (s' := ⟨[],[]⟩) (VC.sub (.n _) (.n _)) ?_
 refine AWP.seq ?_
 refine AWP.region (.cons (.buildSlice (t := 1) (out := ([(5 : Int),(3 : Int)] : List Int).flatMap eW) (lt1 rfl) (nm rfl) (.cons (.const _ _ _) (by first | exact ⟨rfl,rfl⟩ | rfl) (.cons (.const _ _ _) (by first | exact ⟨rfl,rfl⟩ | rfl) (.nil))) Try.underlying22 zero3 el3 (by decide) (by decide) rfl (still_all (encI_still .i64) _))<| .cons (.buildSlice (t := 2) (out := ([(2 : Int),(3 : Int)] : List Int).flatMap eW) (lt1 rfl) (nm rfl) (.cons (.const _ _ _) (by first | exact ⟨rfl,rfl⟩ | rfl) (.cons (.const _ _ _) (by first | exact ⟨rfl,rfl⟩ | rfl) (.nil))) Try.underlying22 zero3 el3 (by decide) (by decide) rfl (still_all (encI_still .i64) _))<| .cons (.buildO (offs := [(0,1),(1,1),(2,1),(3,1)]) (lt1 rfl) (.cons (.t rfl) (by first | exact ⟨rfl,rfl⟩ | rfl) (.cons (.t rfl) (by first | exact ⟨rfl,rfl⟩ | rfl) (.cons (.const _ _ _) (by first | exact ⟨rfl,rfl⟩ | rfl) (.cons (.const _ _ _) (by first | exact ⟨rfl,rfl⟩ | rfl) (.nil))))) zero32 offs32 rfl)<| .cons (.alloc (t := 3) (k := ⟨32,false,[.sc (.slice none 0 0),.sc (.slice none 0 0),iW (0 : Int),iW (0 : Int)]⟩) (lt1 rfl) (nm rfl) zero32 rfl rfl)<| .cons (.storePA (.t rfl) (.t rfl) sz32 rfl rfl (le1 rfl) (one_lit rfl) (by intro h; cases h) rfl)<| ARun.nil _ _ _) ?_
 refine AWP.vc (s' := ⟨[(1,.ptr 3 0)],[(3,⟨32,false,[.own 1 1 0 ([(5 : Int),(3 : Int)] : List Int).length,.own 2 1 0 ([(2 : Int),(3 : Int)] : List Int).length,iW (11 : Int),iW (1 : Int)]⟩),(2,⟨3,true,([(2 : Int),(3 : Int)] : List Int).flatMap eW⟩),(1,⟨3,true,([(5 : Int),(3 : Int)] : List Int).flatMap eW⟩)]⟩) (VC.sub (.of rfl) (.of rfl)) ?_
 refine AWP.seq ?_
 obtain ⟨y_1,hy_1,h⟩ := bindS h
 refine AWP.region (.cons (.loadPA (lt1 rfl) (.t rfl) agg32 rfl rfl rfl rfl)<| .cons (.call0 (bw := true) (lt1 rfl) (c13 (β1 := true) (β2 := true) n (R23.mk ([(5 : Int),(3 : Int)] : List Int) ([(2 : Int),(3 : Int)] : List Int) (11 : Int) (1 : Int)) hy_1) (.cons (.t rfl) (.agg (.cons (.lendRow rfl rfl (encI_len .i64) rfl) (.cons (.lendRow rfl rfl (encI_len .i64) rfl) (.cons (.ren rfl) (.cons (.ren rfl) (.nil)))))) (.nil)) rfl)<| .cons (.move (lt1 rfl) (.t rfl))<| .cons (.extract (lt1 rfl) (.t rfl) rfl)<| .cons (.extract (lt1 rfl) (.t rfl) rfl)<| .cons (.assign (lt1 rfl) (.t rfl))<| .cons (.assign (lt1 rfl) (.t rfl))<| ARun.nil _ _ _) ?_
 refine AWP.vc (s' := ⟨[(1,.ptr 3 0),(2,rW false y_1.1 encL3),(3,iW y_1.2)],[(3,⟨32,false,[.own 1 1 0 ([(5 : Int),(3 : Int)] : List Int).length,.own 2 1 0 ([(2 : Int),(3 : Int)] : List Int).length,iW (11 : Int),iW (1 : Int)]⟩),(2,⟨3,true,([(2 : Int),(3 : Int)] : List Int).flatMap eW⟩),(1,⟨3,true,([(5 : Int),(3 : Int)] : List Int).flatMap eW⟩)]⟩) (VC.sub (.of rfl) (.of rfl)) ?_
 refine AWP.seq ?_
 obtain ⟨y_2,hy_2,h⟩ := bindS h
 refine AWP.region (.cons (.loadPA (lt1 rfl) (.t rfl) agg32 rfl rfl rfl rfl)<| .cons (.call0 (bw := true) (lt1 rfl) (c22 (β1 := true) (β2 := true) n (R23.mk ([(5 : Int),(3 : Int)] : List Int) ([(2 : Int),(3 : Int)] : List Int) (11 : Int) (1 : Int)) hy_2) (.cons (.t rfl) (.agg (.cons (.lendRow rfl rfl (encI_len .i64) rfl) (.cons (.lendRow rfl rfl (encI_len .i64) rfl) (.cons (.ren rfl) (.cons (.ren rfl) (.nil)))))) (.nil)) rfl)<| .cons (.move (lt1 rfl) (.t rfl))<| .cons (.extract (lt1 rfl) (.t rfl) rfl)<| .cons (.extract (lt1 rfl) (.t rfl) rfl)<| .cons (.assign (lt1 rfl) (.t rfl))<| .cons (.assign (lt1 rfl) (.t rfl))<| ARun.nil _ _ _) ?_
 refine AWP.vc (s' := ⟨[(1,.ptr 3 0),(2,rW false y_1.1 encL3),(3,iW y_1.2),(4,iW y_2.1),(5,iW y_2.2)],[(3,⟨32,false,[.own 1 1 0 ([(5 : Int),(3 : Int)] : List Int).length,.own 2 1 0 ([(2 : Int),(3 : Int)] : List Int).length,iW (11 : Int),iW (1 : Int)]⟩),(2,⟨3,true,([(2 : Int),(3 : Int)] : List Int).flatMap eW⟩),(1,⟨3,true,([(5 : Int),(3 : Int)] : List Int).flatMap eW⟩)]⟩) (VC.sub (.of rfl) (.of rfl)) ?_
 refine AWP.seq ?_
 obtain ⟨y_3,hy_3,h⟩ := bindS h
 obtain ⟨y_4,hy_4,h⟩ := bindS h
 refine AWP.region (.cons (.move (lt1 rfl) (.t rfl))<| .cons (.eql (lt1 rfl) (.t rfl) (.const _ _ _))<| .cons (.move (lt1 rfl) (.t rfl))<| .guard (j := 2) (dj := 21) rfl (lt1 rfl) rfl (lt1 rfl) (fun hg => .move (lt1 rfl) (.t rfl))<| .guard (j := 2) (dj := 21) rfl (lt1 rfl) rfl (lt1 rfl) (fun hg => .eql (lt1 rfl) (.gd hg (.t rfl)) (.const _ _ _))<| .cons (.pickAnd (lt1 rfl) (.t rfl) (.t rfl) (.const _ _ _))<| .cons (.move (lt1 rfl) (.t rfl))<| .guard (j := 6) (dj := 25) rfl (lt1 rfl) rfl (lt1 rfl) (fun hg => .move (lt1 rfl) (.t rfl))<| .guard (j := 6) (dj := 25) rfl (lt1 rfl) rfl (lt1 rfl) (fun hg => .eql (lt1 rfl) (.gd hg (.t rfl)) (.const _ _ _))<| .cons (.pickAnd (lt1 rfl) (.t rfl) (.t rfl) (.const _ _ _))<| .cons (.move (lt1 rfl) (.t rfl))<| .guard (j := 10) (dj := 29) rfl (lt1 rfl) rfl (lt1 rfl) (fun hg => .move (lt1 rfl) (.t rfl))<| .guard (j := 10) (dj := 29) rfl (lt1 rfl) rfl (lt1 rfl) (fun hg => .frzAny (fun t ht => AStep.buildSlice (t := t) (out := ([(2 : Int),(0 : Int)] : List Int).flatMap eW) (lt1 rfl) ht (.cons (.const _ _ _) (by first | exact ⟨rfl,rfl⟩ | rfl) (.cons (.const _ _ _) (by first | exact ⟨rfl,rfl⟩ | rfl) (.nil))) Try.underlying22 zero3 el3 (by decide) (by decide) rfl (still_all (encI_still .i64) _)) rfl (encI_len .i64))<| .guard (j := 10) (dj := 29) rfl (lt1 rfl) rfl (lt1 rfl) (fun hg => .frzAny (fun t ht => AStep.buildSlice (t := t) (out := ([(1 : Int),(1 : Int)] : List Int).flatMap eW) (lt1 rfl) ht (.cons (.const _ _ _) (by first | exact ⟨rfl,rfl⟩ | rfl) (.cons (.const _ _ _) (by first | exact ⟨rfl,rfl⟩ | rfl) (.nil))) Try.underlying22 zero3 el3 (by decide) (by decide) rfl (still_all (encI_still .i64) _)) rfl (encI_len .i64))<| .guard (j := 10) (dj := 29) rfl (lt1 rfl) rfl (lt1 rfl) (fun hg => .frzAny (fun t ht => AStep.buildSlice (t := t) (out := ([(0 : Int),(3 : Int)] : List Int).flatMap eW) (lt1 rfl) ht (.cons (.const _ _ _) (by first | exact ⟨rfl,rfl⟩ | rfl) (.cons (.const _ _ _) (by first | exact ⟨rfl,rfl⟩ | rfl) (.nil))) Try.underlying22 zero3 el3 (by decide) (by decide) rfl (still_all (encI_still .i64) _)) rfl (encI_len .i64))<| .guard (j := 10) (dj := 29) rfl (lt1 rfl) rfl (lt1 rfl) (fun hg => .frzAny (fun t ht => AStep.buildSlice (t := t) (out := ([([(2 : Int),(0 : Int)] : List Int),([(1 : Int),(1 : Int)] : List Int),([(0 : Int),(3 : Int)] : List Int)] : List (List Int)).flatMap encL3) (lt1 rfl) ht (.cons (.gd hg (.t rfl)) (by first | exact ⟨rfl,rfl⟩ | rfl) (.cons (.gd hg (.t rfl)) (by first | exact ⟨rfl,rfl⟩ | rfl) (.cons (.gd hg (.t rfl)) (by first | exact ⟨rfl,rfl⟩ | rfl) (.nil)))) Try.underlying28 zero22 el22 (by decide) (by decide) rfl (still_all encL3_still _)) rfl encL3_len)<| .guard (j := 10) (dj := 29) rfl (lt1 rfl) rfl (lt1 rfl) (fun hg => .call0 (bw := false) (lt1 rfl) (c20 (β1 := false) (β2 := false) n y_1.1 ([([(2 : Int),(0 : Int)] : List Int),([(1 : Int),(1 : Int)] : List Int),([(0 : Int),(3 : Int)] : List Int)] : List (List Int)) (gdB hy_3 hg)) (.cons (.gd hg (.t rfl)) (.ren rfl) (.cons (.gd hg (.t rfl)) (.ren rfl) (.nil))) rfl)<| .cons (.pickAnd (lt1 rfl) (.t rfl) (.t rfl) (.const _ _ _))<| .cons (.move (lt1 rfl) (.t rfl))<| .guard (j := 18) (dj := 37) rfl (lt1 rfl) rfl (lt1 rfl) (fun hg => .loadPA (lt1 rfl) (.t rfl) agg32 rfl rfl rfl rfl)<| .guard (j := 18) (dj := 37) rfl (lt1 rfl) rfl (lt1 rfl) (fun hg => .call0 (bw := true) (lt1 rfl) (c21 (β1 := true) (β2 := true) n (R23.mk ([(5 : Int),(3 : Int)] : List Int) ([(2 : Int),(3 : Int)] : List Int) (11 : Int) (1 : Int)) (gdB hy_4 hg)) (.cons (.gd hg (.t rfl)) (.agg (.cons (.lendRow rfl rfl (encI_len .i64) rfl) (.cons (.lendRow rfl rfl (encI_len .i64) rfl) (.cons (.ren rfl) (.cons (.ren rfl) (.nil)))))) (.nil)) rfl)<| .cons (.pickAnd (lt1 rfl) (.t rfl) (.t rfl) (.const _ _ _))<| .cons (.assign (lt1 rfl) (.t rfl))<| ARun.nil _ _ _) ?_
 refine AWP.ret ?_
 obtain rfl := Option.some.inj h
 refine retJ (Res.vc (s' := ⟨[(0,bW (((((decide (y_1.2 = (0 : Int))) && (decide (y_2.2 = (0 : Int)))) && (decide (y_2.1 = (2 : Int)))) && y_3) && y_4))],[]⟩) (VC.sub (.of rfl) (.n _)) ?_)
 refine Res.drop (H := []) rfl ?_
 exact Res.of rfl (.cons (.tmp rfl) (.nil)) rfl rfl
end Go.AB
