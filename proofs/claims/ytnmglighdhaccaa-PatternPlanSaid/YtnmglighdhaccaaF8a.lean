import Derived.Test.YtnmglighdhaccaaProg
import Derived.Test.YtnmglighdhaccaaF0a
import Derived.KernelRfl
set_option linter.unusedVariables false
set_option maxRecDepth 20000
namespace Go.AB
open Go Go.Proofs
theorem c48 {β1 : Bool} {β2 : Bool} {β3 : Bool} (n : Nat) (a0 : R23) (a1 : (List Int)) {r : (Int × Bool)} (h : m48 n a0 a1 = some r) : Spec Try.prog 48 [] [.agg (pW β1 β2 a0),rW β3 a1 eW] [] (.tup [iW r.1,bW r.2]) [] := by
 refine Spec.of (fn := Try.f48) Try.func48 Try.ntmps48 rfl rfl (le1 rfl) (fun w0 Zs Zb T0 ι0 => ?_)
 unfold m48 at h
 refine AWP.sv (.cons (.box (t := 1) (n := 4) (lt1 rfl) (nm rfl) (.t rfl) (by first | exact ⟨rfl,rfl⟩ | rfl) rfl)<| .cons (.assign (lt1 rfl) (.const _ _ _))<| .cons (.assign (lt1 rfl) (.const _ _ _))<| .nil _ _ _) ⟨[(1,rW β3 a1 eW),(2,.ptr 1 0)],[(1,⟨32,false,(pW β1 β2 a0)⟩)]⟩ rfl rfl ?_
 refine AWP.seq ?_
 obtain ⟨y_1,hy_1,h⟩ := bindS h
 refine AWP.sv (.cons (.loadPA (lt1 rfl) (.t rfl) agg32 rfl rfl rfl rfl)<| .cons (.call0 (bw := false) (lt1 rfl) (c21 (β1 := β1) (β2 := β2) n (R23.mk a0.Lq a0.Dq a0.Sq a0.Kq) hy_1) (.cons (.t rfl) (.ren rfl) (.nil)) rfl)<| .cons (.not (lt1 rfl) (.t rfl))<| .cons (.move (lt1 rfl) (.t rfl))<| .guard (j := 3) (dj := 12) rfl (lt1 rfl) rfl (lt1 rfl) (fun hg => .move (lt1 rfl) (.t rfl))<| .guard (j := 3) (dj := 12) rfl (lt1 rfl) rfl (lt1 rfl) (fun hg => .lenRd (lt1 rfl) (.gd hg (.t rfl)) Try.underlying22)<| .guard (j := 3) (dj := 12) rfl (lt1 rfl) rfl (lt1 rfl) (fun hg => .fieldP (lt1 rfl) (.t rfl) fld32_0)<| .guard (j := 3) (dj := 12) rfl (lt1 rfl) rfl (lt1 rfl) (fun hg => .loadP (lt1 rfl) (.gd hg (.t rfl)) one22 rfl rfl rfl)<| .guard (j := 3) (dj := 12) rfl (lt1 rfl) rfl (lt1 rfl) (fun hg => .lenRd (lt1 rfl) (.gd hg (.t rfl)) Try.underlying22)<| .guard (j := 3) (dj := 12) rfl (lt1 rfl) rfl (lt1 rfl) (fun hg => .neq (lt1 rfl) (.gd hg (.t rfl)) (.gd hg (.t rfl)))<| .cons (.pickOr (lt1 rfl) (.t rfl) (.const _ _ _) (.t rfl))<| .nil _ _ _) ⟨[(1,rW β3 a1 eW),(2,.ptr 1 0),(19,bW ((!y_1) || (!decide ((a1.length : Int) = (a0.Lq.length : Int)))))],[(1,⟨32,false,(pW β1 β2 a0)⟩)]⟩ rfl rfl ?_
 refine AWP.cond (.t rfl) (fun hc => ?_) (fun hc => ?_)
 ·have h := iteT hc h
  refine AWP.sr (.cons (.assign (lt1 rfl) (.const _ _ _))<| .cons (.assign (lt1 rfl) (.const _ _ _))<| .nil _ _ _) ?_
  refine AWP.ret ?_
  obtain rfl := Option.some.inj h
  refine retJ (Res.vc (s' := ⟨[(4,iW (0 : Int)),(5,bW false)],[]⟩) (VC.sub (.of rfl) (.n _)) ?_)
  refine Res.drop (H := []) rfl ?_
  exact Res.of rfl (.cons (.tmp rfl) (.cons (.tmp rfl) (.nil))) rfl rfl
 ·have h := iteF hc h
  refine AWP.skip ?_
  obtain ⟨t6_2,ht6_2,h⟩ := letS h
  refine AWP.sr (.cons (.fieldP (lt1 rfl) (.t rfl) fld32_2)<| .cons (.loadP (lt1 rfl) (.t rfl) one3 rfl rfl rfl)<| .cons (.fieldP (lt1 rfl) (.t rfl) fld32_3)<| .cons (.loadP (lt1 rfl) (.t rfl) one3 rfl rfl rfl)<| .cons (.add (lt1 rfl) (.t rfl) (.t rfl))<| .cons (.assign (lt1 rfl) (.t rfl))<| .nil _ _ _) ?_
  refine AWP.vc (s' := ⟨[(1,rW β3 a1 eW),(2,.ptr 1 0),(6,iW t6_2)],[(1,⟨32,false,(pW β1 β2 a0)⟩)]⟩) (by subst ht6_2; exact VC.sub (.of rfl) (.of rfl)) ?_
  refine AWP.seq ?_
  refine AWP.sv (.cons (.move (lt1 rfl) (.t rfl))<| .cons (.lenRd (lt1 rfl) (.t rfl) Try.underlying22)<| .cons (.move (lt1 rfl) (.const _ _ _))<| .nil _ _ _) ⟨[(2,.ptr 1 0),(6,iW t6_2),(25,rW β3 a1 eW),(26,iW (a1.length : Int)),(27,iW (0 : Int))],[(1,⟨32,false,(pW β1 β2 a0)⟩)]⟩ rfl rfl ?_
  refine AWP.joinB' (S := fun p_25 : Int => ⟨[(6,iW p_25)],[]⟩) h (fun p_25 h => ?_) (fun k_26 h => ?_)
  ·refine AWP.sr (.cons (.move (lt1 rfl) (.t rfl))<| .cons (.assign (lt1 rfl) (.t rfl))<| .cons (.assign (lt1 rfl) (.const _ _ _))<| .nil _ _ _) ?_
   refine AWP.ret ?_
   obtain rfl := Option.some.inj h
   refine retJ (Res.vc (s' := ⟨[(4,iW p_25),(5,bW true)],[]⟩) (VC.sub (.of rfl) (.n _)) ?_)
   refine Res.drop (H := []) rfl ?_
   exact Res.of rfl (.cons (.tmp rfl) (.cons (.tmp rfl) (.nil))) rfl rfl
  ·refine AWP.vs ⟨[(2,.ptr 1 0),(6,iW t6_2),(25,rW β3 a1 eW),(26,iW (a1.length : Int)),(27,iW (0 : Int))],[(1,⟨32,false,(pW β1 β2 a0)⟩)]⟩ rfl rfl ?_
   refine AWP.loopM (S := fun x_17 : Int × Int => ⟨[(2,.ptr 1 0),(6,iW x_17.1),(25,rW β3 a1 eW),(26,iW (a1.length : Int)),(27,iW x_17.2)],[(1,⟨32,false,(pW β1 β2 a0)⟩)]⟩) (x := (t6_2,(0 : Int))) (fun nx_18 x_17 h => ?_) h
   unfold m48_L1 at h
   refine AWP.sv (.cons (.lss (lt1 rfl) (.t rfl) (.t rfl))<| .nil _ _ _) ⟨[(2,.ptr 1 0),(6,iW x_17.1),(25,rW β3 a1 eW),(26,iW (a1.length : Int)),(27,iW x_17.2),(28,bW (decide (x_17.2 < (a1.length : Int))))],[(1,⟨32,false,(pW β1 β2 a0)⟩)]⟩ rfl rfl ?_
   refine AWP.seq ?_
   refine AWP.cond (.t rfl) (fun hc => ?_) (fun hc => ?_)
   ·have h := iteT hc h
    refine AWP.skip ?_
    refine AWP.seq ?_
    refine AWP.block ?_
    obtain ⟨y_19,hy_19,h⟩ := bindS h
    refine AWP.sv (.cons (.move (lt1 rfl) (.t rfl))<| .cons (.indexRd (enc := eW) (lt1 rfl) (.t rfl) (.t rfl) Try.underlying22 sz3 (encI_len .i64) rfl hy_19)<| .cons (.loadR (v := iW y_19) (lt1 rfl) (.t rfl) one3 rfl)<| .cons (.assign (lt1 rfl) (.t rfl))<| .cons (.assign (lt1 rfl) (.t rfl))<| .nil _ _ _) ⟨[(2,.ptr 1 0),(6,iW x_17.1),(25,rW β3 a1 eW),(26,iW (a1.length : Int)),(27,iW x_17.2),(7,iW x_17.2),(8,iW y_19)],[(1,⟨32,false,(pW β1 β2 a0)⟩)]⟩ rfl rfl ?_
    refine AWP.seq ?_
    obtain ⟨y_20,hy_20,h⟩ := bindS h
    obtain ⟨ha_21,h⟩ := asrtGS h
    refine AWP.sv (.cons (.move (lt1 rfl) (.t rfl))<| .cons (.lss (lt1 rfl) (.t rfl) (.const _ _ _))<| .cons (.move (lt1 rfl) (.t rfl))<| .guard (j := 2) (dj := 34) rfl (lt1 rfl) rfl (lt1 rfl) (fun hg => .move (lt1 rfl) (.t rfl))<| .guard (j := 2) (dj := 34) rfl (lt1 rfl) rfl (lt1 rfl) (fun hg => .move (lt1 rfl) (.t rfl))<| .guard (j := 2) (dj := 34) rfl (lt1 rfl) rfl (lt1 rfl) (fun hg => .loadPA (lt1 rfl) (.t rfl) agg32 rfl rfl rfl rfl)<| .guard (j := 2) (dj := 34) rfl (lt1 rfl) rfl (lt1 rfl) (fun hg => .move (lt1 rfl) (.t rfl))<| .guard (j := 2) (dj := 34) rfl (lt1 rfl) rfl (lt1 rfl) (fun hg => .call0 (bw := false) (lt1 rfl) (c47 (β1 := β1) (β2 := β2) n (R23.mk a0.Lq a0.Dq a0.Sq a0.Kq) x_17.2 (gdB hy_20 hg)) (.cons (.gd hg (.t rfl)) (.ren rfl) (.cons (.gd hg (.t rfl)) (.ren rfl) (.nil))) rfl)<| .guard (j := 2) (dj := 34) rfl (lt1 rfl) rfl (lt1 rfl) (fun hg => .quo (lt1 rfl) (.gd hg (.t rfl)) (.gd hg (.t rfl)) (ha_21 hg))<| .guard (j := 2) (dj := 34) rfl (lt1 rfl) rfl (lt1 rfl) (fun hg => .gtr (lt1 rfl) (.gd hg (.t rfl)) (.gd hg (.t rfl)))<| .cons (.pickOr (lt1 rfl) (.t rfl) (.const _ _ _) (.t rfl))<| .nil _ _ _) ⟨[(2,.ptr 1 0),(6,iW x_17.1),(25,rW β3 a1 eW),(26,iW (a1.length : Int)),(27,iW x_17.2),(7,iW x_17.2),(8,iW y_19),(42,bW ((decide (y_19 < (0 : Int))) || (decide ((IntKind.wrap .i64 (x_17.1.tdiv y_20)) < y_19))))],[(1,⟨32,false,(pW β1 β2 a0)⟩)]⟩ rfl rfl ?_
    refine AWP.cond (.t rfl) (fun hc => ?_) (fun hc => ?_)
    ·have h := iteT hc h
     refine AWP.sr (.cons (.assign (lt1 rfl) (.const _ _ _))<| .cons (.assign (lt1 rfl) (.const _ _ _))<| .nil _ _ _) ?_
     refine AWP.ret ?_
     obtain rfl := Option.some.inj h
     refine retJ (Res.vc (s' := ⟨[(4,iW (0 : Int)),(5,bW false)],[]⟩) (VC.sub (.of rfl) (.n _)) ?_)
     refine Res.drop (H := []) rfl ?_
     exact Res.of rfl (.cons (.tmp rfl) (.cons (.tmp rfl) (.nil))) rfl rfl
    ·have h := iteF hc h
     refine AWP.skip ?_
     obtain ⟨y_22,hy_22,h⟩ := bindS h
     obtain ⟨t6_23,ht6_23,h⟩ := letS h
     refine AWP.rg (.cons (.move (lt1 rfl) (.t rfl))<| .cons (.move (lt1 rfl) (.t rfl))<| .cons (.loadPA (lt1 rfl) (.t rfl) agg32 rfl rfl rfl rfl)<| .cons (.move (lt1 rfl) (.t rfl))<| .cons (.call0 (bw := false) (lt1 rfl) (c47 (β1 := β1) (β2 := β2) n (R23.mk a0.Lq a0.Dq a0.Sq a0.Kq) x_17.2 hy_22) (.cons (.t rfl) (.ren rfl) (.cons (.t rfl) (.ren rfl) (.nil))) rfl)<| .cons (.mul (lt1 rfl) (.t rfl) (.t rfl))<| .cons (.sub (lt1 rfl) (.t rfl) (.t rfl))<| .cons (.assign (lt1 rfl) (.t rfl))<| .nil _ _ _) ?_
     refine AWP.vc (s' := ⟨[(2,.ptr 1 0),(6,iW t6_23),(25,rW β3 a1 eW),(26,iW (a1.length : Int)),(27,iW x_17.2)],[(1,⟨32,false,(pW β1 β2 a0)⟩)]⟩) (by subst ht6_23; exact VC.sub (.of rfl) (.of rfl)) ?_
     obtain ⟨t27_24,ht27_24,h⟩ := letS h
     refine AWP.rg (.cons (.add (lt1 rfl) (.t rfl) (.const _ _ _))<| .cons (.move (lt1 rfl) (.t rfl))<| .nil _ _ _) ?_
     exact endJ (t6_23,t27_24) h (by subst ht27_24; exact VC.sub (.of rfl) (.of rfl))
   ·have h := iteF hc h
    refine AWP.exit ?_
    exact endJ x_17.1 h (VC.sub (.of rfl) (.n _))
theorem c12 {β1 : Bool} {β2 : Bool} (n : Nat) (a0 : R23) {r : Bool} (h : m12 n a0 = some r) : Spec Try.prog 12 [] [.agg (pW β1 β2 a0)] [] (bW r) [] := by
 refine Spec.of (fn := Try.f12) Try.func12 Try.ntmps12 rfl rfl (le1 rfl) (fun w0 Zs Zb T0 ι0 => ?_)
 unfold m12 at h
 refine AWP.sv (.cons (.box (t := 1) (n := 4) (lt1 rfl) (nm rfl) (.t rfl) (by first | exact ⟨rfl,rfl⟩ | rfl) rfl)<| .cons (.assign (lt1 rfl) (.const _ _ _))<| .nil _ _ _) ⟨[(1,.ptr 1 0)],[(1,⟨24,false,(pW β1 β2 a0)⟩)]⟩ rfl rfl ?_
 refine AWP.sv (.cons (.fieldP (lt1 rfl) (.t rfl) fld24_0)<| .cons (.loadP (lt1 rfl) (.t rfl) one22 rfl rfl rfl)<| .cons (.lenRd (lt1 rfl) (.t rfl) Try.underlying22)<| .cons (.assign (lt1 rfl) (.t rfl))<| .nil _ _ _) ⟨[(1,.ptr 1 0),(3,iW (a0.Lq.length : Int))],[(1,⟨24,false,(pW β1 β2 a0)⟩)]⟩ rfl rfl ?_
 refine AWP.seq ?_
 obtain ⟨t40_1,ht40_1,h⟩ := letS h
 refine AWP.sr (.cons (.move (lt1 rfl) (.t rfl))<| .cons (.lss (lt1 rfl) (.t rfl) (.const _ _ _))<| .cons (.move (lt1 rfl) (.t rfl))<| .guard (j := 2) (dj := 10) rfl (lt1 rfl) rfl (lt1 rfl) (fun hg => .move (lt1 rfl) (.t rfl))<| .guard (j := 2) (dj := 10) rfl (lt1 rfl) rfl (lt1 rfl) (fun hg => .gtr (lt1 rfl) (.gd hg (.t rfl)) (.const _ _ _))<| .cons (.pickOr (lt1 rfl) (.t rfl) (.const _ _ _) (.t rfl))<| .cons (.move (lt1 rfl) (.t rfl))<| .guard (j := 6) (dj := 14) rfl (lt1 rfl) rfl (lt1 rfl) (fun hg => .fieldP (lt1 rfl) (.t rfl) fld24_1)<| .guard (j := 6) (dj := 14) rfl (lt1 rfl) rfl (lt1 rfl) (fun hg => .loadP (lt1 rfl) (.gd hg (.t rfl)) one22 rfl rfl rfl)<| .guard (j := 6) (dj := 14) rfl (lt1 rfl) rfl (lt1 rfl) (fun hg => .lenRd (lt1 rfl) (.gd hg (.t rfl)) Try.underlying22)<| .guard (j := 6) (dj := 14) rfl (lt1 rfl) rfl (lt1 rfl) (fun hg => .move (lt1 rfl) (.t rfl))<| .guard (j := 6) (dj := 14) rfl (lt1 rfl) rfl (lt1 rfl) (fun hg => .neq (lt1 rfl) (.gd hg (.t rfl)) (.gd hg (.t rfl)))<| .cons (.pickOr (lt1 rfl) (.t rfl) (.const _ _ _) (.t rfl))<| .cons (.move (lt1 rfl) (.t rfl))<| .guard (j := 13) (dj := 21) rfl (lt1 rfl) rfl (lt1 rfl) (fun hg => .fieldP (lt1 rfl) (.t rfl) fld24_2)<| .guard (j := 13) (dj := 21) rfl (lt1 rfl) rfl (lt1 rfl) (fun hg => .loadP (lt1 rfl) (.gd hg (.t rfl)) one3 rfl rfl rfl)<| .guard (j := 13) (dj := 21) rfl (lt1 rfl) rfl (lt1 rfl) (fun hg => .lss (lt1 rfl) (.gd hg (.t rfl)) (.const _ _ _))<| .cons (.pickOr (lt1 rfl) (.t rfl) (.const _ _ _) (.t rfl))<| .cons (.move (lt1 rfl) (.t rfl))<| .guard (j := 18) (dj := 26) rfl (lt1 rfl) rfl (lt1 rfl) (fun hg => .fieldP (lt1 rfl) (.t rfl) fld24_2)<| .guard (j := 18) (dj := 26) rfl (lt1 rfl) rfl (lt1 rfl) (fun hg => .loadP (lt1 rfl) (.gd hg (.t rfl)) one3 rfl rfl rfl)<| .guard (j := 18) (dj := 26) rfl (lt1 rfl) rfl (lt1 rfl) (fun hg => .gtr (lt1 rfl) (.gd hg (.t rfl)) (.const _ _ _))<| .cons (.pickOr (lt1 rfl) (.t rfl) (.const _ _ _) (.t rfl))<| .cons (.move (lt1 rfl) (.t rfl))<| .guard (j := 23) (dj := 31) rfl (lt1 rfl) rfl (lt1 rfl) (fun hg => .fieldP (lt1 rfl) (.t rfl) fld24_3)<| .guard (j := 23) (dj := 31) rfl (lt1 rfl) rfl (lt1 rfl) (fun hg => .loadP (lt1 rfl) (.gd hg (.t rfl)) one3 rfl rfl rfl)<| .guard (j := 23) (dj := 31) rfl (lt1 rfl) rfl (lt1 rfl) (fun hg => .lss (lt1 rfl) (.gd hg (.t rfl)) (.const _ _ _))<| .cons (.pickOr (lt1 rfl) (.t rfl) (.const _ _ _) (.t rfl))<| .cons (.move (lt1 rfl) (.t rfl))<| .guard (j := 28) (dj := 36) rfl (lt1 rfl) rfl (lt1 rfl) (fun hg => .fieldP (lt1 rfl) (.t rfl) fld24_3)<| .guard (j := 28) (dj := 36) rfl (lt1 rfl) rfl (lt1 rfl) (fun hg => .loadP (lt1 rfl) (.gd hg (.t rfl)) one3 rfl rfl rfl)<| .guard (j := 28) (dj := 36) rfl (lt1 rfl) rfl (lt1 rfl) (fun hg => .gtr (lt1 rfl) (.gd hg (.t rfl)) (.const _ _ _))<| .cons (.pickOr (lt1 rfl) (.t rfl) (.const _ _ _) (.t rfl))<| .nil _ _ _) ?_
 refine AWP.vc (s' := ⟨[(1,.ptr 1 0),(3,iW (a0.Lq.length : Int)),(40,bW t40_1)],[(1,⟨24,false,(pW β1 β2 a0)⟩)]⟩) (by subst ht40_1; exact VC.sub (.of rfl) (.of rfl)) ?_
 refine AWP.cond (.t rfl) (fun hc => ?_) (fun hc => ?_)
 ·have h := iteT hc h
  refine AWP.sr (.cons (.assign (lt1 rfl) (.const _ _ _))<| .nil _ _ _) ?_
  refine AWP.ret ?_
  obtain rfl := Option.some.inj h
  refine retJ (Res.vc (s' := ⟨[(2,bW false)],[]⟩) (VC.sub (.of rfl) (.n _)) ?_)
  refine Res.drop (H := []) rfl ?_
  exact Res.of rfl (.cons (.tmp rfl) (.nil)) rfl rfl
 ·have h := iteF hc h
  refine AWP.skip ?_
  refine AWP.seq ?_
  refine AWP.sv (.cons (.assign (lt1 rfl) (.const _ _ _))<| .nil _ _ _) ⟨[(1,.ptr 1 0),(3,iW (a0.Lq.length : Int)),(4,iW (0 : Int))],[(1,⟨24,false,(pW β1 β2 a0)⟩)]⟩ rfl rfl ?_
  refine AWP.joinB' (S := fun p_21 : Unit => ⟨[],[]⟩) h (fun p_21 h => ?_) (fun k_22 h => ?_)
  ·refine AWP.sr (.cons (.assign (lt1 rfl) (.const _ _ _))<| .nil _ _ _) ?_
   refine AWP.ret ?_
   obtain rfl := Option.some.inj h
   refine retJ (Res.vc (s' := ⟨[(2,bW true)],[]⟩) (VC.sub (.of rfl) (.n _)) ?_)
   refine Res.drop (H := []) rfl ?_
   exact Res.of rfl (.cons (.tmp rfl) (.nil)) rfl rfl
  ·refine AWP.vs ⟨[(1,.ptr 1 0),(3,iW (a0.Lq.length : Int)),(4,iW (0 : Int))],[(1,⟨24,false,(pW β1 β2 a0)⟩)]⟩ rfl rfl ?_
   refine AWP.loopM (S := fun x_11 : Int => ⟨[(1,.ptr 1 0),(3,iW (a0.Lq.length : Int)),(4,iW x_11)],[(1,⟨24,false,(pW β1 β2 a0)⟩)]⟩) (x := (0 : Int)) (fun nx_12 x_11 h => ?_) h
   unfold m12_L1 at h
   refine AWP.seq ?_
   refine AWP.sv (.cons (.move (lt1 rfl) (.t rfl))<| .cons (.move (lt1 rfl) (.t rfl))<| .cons (.lss (lt1 rfl) (.t rfl) (.t rfl))<| .nil _ _ _) ⟨[(1,.ptr 1 0),(3,iW (a0.Lq.length : Int)),(4,iW x_11),(43,bW (decide (x_11 < (a0.Lq.length : Int))))],[(1,⟨24,false,(pW β1 β2 a0)⟩)]⟩ rfl rfl ?_
   refine AWP.cond (.t rfl) (fun hc => ?_) (fun hc => ?_)
   ·have h := iteT hc h
    refine AWP.skip ?_
    refine AWP.seq ?_
    refine AWP.block ?_
    refine AWP.seq ?_
    obtain ⟨y_13,hy_13,h⟩ := bindS h
    obtain ⟨y_14,hy_14,h⟩ := bindS h
    obtain ⟨y_15,hy_15,h⟩ := bindS h
    obtain ⟨y_16,hy_16,h⟩ := bindS h
    obtain ⟨y_17,hy_17,h⟩ := bindS h
    obtain ⟨y_18,hy_18,h⟩ := bindS h
    obtain ⟨t95_19,ht95_19,h⟩ := letS h
    refine AWP.dw mixed [(1,.ptr 1 0),(3,iW (a0.Lq.length : Int)),(4,iW x_11),(43,bW (decide (x_11 < (a0.Lq.length : Int))))] [] [dO [0] 46 (.ptr 1 (0 + 0)),dO [4] 47 (rW β1 a0.Lq eW),dO [2] 48 (iW x_11),dO [5,6] 49 (.rptr β1 [iW y_13]),dO [7] 50 (iW y_13),dO [8] 51 (bW (decide (y_13 < (1 : Int)))),dO [9] 52 (bW (decide (y_13 < (1 : Int)))),dO [10,0] 53 (.gd (!(decide (y_13 < (1 : Int)))) (.ptr 1 (0 + 0))),dO [10,11] 54 (.gd (!(decide (y_13 < (1 : Int)))) (rW β1 a0.Lq eW)),dO [10,2] 55 (.gd (!(decide (y_13 < (1 : Int)))) (iW x_11)),dO [10,12,13] 56 (.gd (!(decide (y_13 < (1 : Int)))) (.rptr β1 [iW y_14])),dO [10,14] 57 (.gd (!(decide (y_13 < (1 : Int)))) (iW y_14)),dO [10,0] 58 (.gd (!(decide (y_13 < (1 : Int)))) (.ptr 1 (0 + 2))),dO [10,16] 59 (.gd (!(decide (y_13 < (1 : Int)))) (iW a0.Sq)),dO [10,15,17] 60 (.gd (!(decide (y_13 < (1 : Int)))) (bW (decide (a0.Sq < y_14)))),dO [10,18] 61 (bW ((decide (y_13 < (1 : Int))) || (decide (a0.Sq < y_14)))),dO [19] 62 (bW ((decide (y_13 < (1 : Int))) || (decide (a0.Sq < y_14)))),dO [20,2] 63 (.gd (!((decide (y_13 < (1 : Int))) || (decide (a0.Sq < y_14)))) (iW x_11)),dO [20,21] 64 (.gd (!((decide (y_13 < (1 : Int))) || (decide (a0.Sq < y_14)))) (bW (decide ((0 : Int) < x_11)))),dO [20,22] 65 (.gd (!((decide (y_13 < (1 : Int))) || (decide (a0.Sq < y_14)))) (bW (decide ((0 : Int) < x_11)))),dO [23,0] 66 (.gd ((!((decide (y_13 < (1 : Int))) || (decide (a0.Sq < y_14)))) && (decide ((0 : Int) < x_11))) (.ptr 1 (0 + 0))),dO [23,24] 67 (.gd ((!((decide (y_13 < (1 : Int))) || (decide (a0.Sq < y_14)))) && (decide ((0 : Int) < x_11))) (rW β1 a0.Lq eW)),dO [23,2] 68 (.gd ((!((decide (y_13 < (1 : Int))) || (decide (a0.Sq < y_14)))) && (decide ((0 : Int) < x_11))) (iW x_11)),dO [23,25,26] 69 (.gd ((!((decide (y_13 < (1 : Int))) || (decide (a0.Sq < y_14)))) && (decide ((0 : Int) < x_11))) (.rptr β1 [iW y_15])),dO [23,27] 70 (.gd ((!((decide (y_13 < (1 : Int))) || (decide (a0.Sq < y_14)))) && (decide ((0 : Int) < x_11))) (iW y_15)),dO [23,0] 71 (.gd ((!((decide (y_13 < (1 : Int))) || (decide (a0.Sq < y_14)))) && (decide ((0 : Int) < x_11))) (.ptr 1 (0 + 0))),dO [23,29] 72 (.gd ((!((decide (y_13 < (1 : Int))) || (decide (a0.Sq < y_14)))) && (decide ((0 : Int) < x_11))) (rW β1 a0.Lq eW)),dO [23,2] 73 (.gd ((!((decide (y_13 < (1 : Int))) || (decide (a0.Sq < y_14)))) && (decide ((0 : Int) < x_11))) (iW x_11)),dO [23,31] 74 (.gd ((!((decide (y_13 < (1 : Int))) || (decide (a0.Sq < y_14)))) && (decide ((0 : Int) < x_11))) (iW (IntKind.wrap .i64 (x_11 - (1 : Int))))),dO [23,30,32] 75 (.gd ((!((decide (y_13 < (1 : Int))) || (decide (a0.Sq < y_14)))) && (decide ((0 : Int) < x_11))) (.rptr β1 [iW y_16])),dO [23,33] 76 (.gd ((!((decide (y_13 < (1 : Int))) || (decide (a0.Sq < y_14)))) && (decide ((0 : Int) < x_11))) (iW y_16)),dO [23,28,34] 77 (.gd ((!((decide (y_13 < (1 : Int))) || (decide (a0.Sq < y_14)))) && (decide ((0 : Int) < x_11))) (bW (decide (y_16 ≤ y_15)))),dO [20,23,35] 78 (.gd (!((decide (y_13 < (1 : Int))) || (decide (a0.Sq < y_14)))) (bW ((decide ((0 : Int) < x_11)) && (decide (y_16 ≤ y_15))))),dO [20,36] 79 (bW (((decide (y_13 < (1 : Int))) || (decide (a0.Sq < y_14))) || ((decide ((0 : Int) < x_11)) && (decide (y_16 ≤ y_15))))),dO [37] 80 (bW (((decide (y_13 < (1 : Int))) || (decide (a0.Sq < y_14))) || ((decide ((0 : Int) < x_11)) && (decide (y_16 ≤ y_15))))),dO [38,0] 81 (.gd (!(((decide (y_13 < (1 : Int))) || (decide (a0.Sq < y_14))) || ((decide ((0 : Int) < x_11)) && (decide (y_16 ≤ y_15))))) (.ptr 1 (0 + 1))),dO [38,39] 82 (.gd (!(((decide (y_13 < (1 : Int))) || (decide (a0.Sq < y_14))) || ((decide ((0 : Int) < x_11)) && (decide (y_16 ≤ y_15))))) (rW β2 a0.Dq eW)),dO [38,2] 83 (.gd (!(((decide (y_13 < (1 : Int))) || (decide (a0.Sq < y_14))) || ((decide ((0 : Int) < x_11)) && (decide (y_16 ≤ y_15))))) (iW x_11)),dO [38,40,41] 84 (.gd (!(((decide (y_13 < (1 : Int))) || (decide (a0.Sq < y_14))) || ((decide ((0 : Int) < x_11)) && (decide (y_16 ≤ y_15))))) (.rptr β2 [iW y_17])),dO [38,42] 85 (.gd (!(((decide (y_13 < (1 : Int))) || (decide (a0.Sq < y_14))) || ((decide ((0 : Int) < x_11)) && (decide (y_16 ≤ y_15))))) (iW y_17)),dO [38,43] 86 (.gd (!(((decide (y_13 < (1 : Int))) || (decide (a0.Sq < y_14))) || ((decide ((0 : Int) < x_11)) && (decide (y_16 ≤ y_15))))) (bW (decide (y_17 < (0 : Int))))),dO [38,44] 87 (bW ((((decide (y_13 < (1 : Int))) || (decide (a0.Sq < y_14))) || ((decide ((0 : Int) < x_11)) && (decide (y_16 ≤ y_15)))) || (decide (y_17 < (0 : Int))))),dO [45] 88 (bW ((((decide (y_13 < (1 : Int))) || (decide (a0.Sq < y_14))) || ((decide ((0 : Int) < x_11)) && (decide (y_16 ≤ y_15)))) || (decide (y_17 < (0 : Int))))),dO [46,0] 89 (.gd (!((((decide (y_13 < (1 : Int))) || (decide (a0.Sq < y_14))) || ((decide ((0 : Int) < x_11)) && (decide (y_16 ≤ y_15)))) || (decide (y_17 < (0 : Int))))) (.ptr 1 (0 + 1))),dO [46,47] 90 (.gd (!((((decide (y_13 < (1 : Int))) || (decide (a0.Sq < y_14))) || ((decide ((0 : Int) < x_11)) && (decide (y_16 ≤ y_15)))) || (decide (y_17 < (0 : Int))))) (rW β2 a0.Dq eW)),dO [46,2] 91 (.gd (!((((decide (y_13 < (1 : Int))) || (decide (a0.Sq < y_14))) || ((decide ((0 : Int) < x_11)) && (decide (y_16 ≤ y_15)))) || (decide (y_17 < (0 : Int))))) (iW x_11)),dO [46,48,49] 92 (.gd (!((((decide (y_13 < (1 : Int))) || (decide (a0.Sq < y_14))) || ((decide ((0 : Int) < x_11)) && (decide (y_16 ≤ y_15)))) || (decide (y_17 < (0 : Int))))) (.rptr β2 [iW y_18])),dO [46,50] 93 (.gd (!((((decide (y_13 < (1 : Int))) || (decide (a0.Sq < y_14))) || ((decide ((0 : Int) < x_11)) && (decide (y_16 ≤ y_15)))) || (decide (y_17 < (0 : Int))))) (iW y_18)),dO [46,51] 94 (.gd (!((((decide (y_13 < (1 : Int))) || (decide (a0.Sq < y_14))) || ((decide ((0 : Int) < x_11)) && (decide (y_16 ≤ y_15)))) || (decide (y_17 < (0 : Int))))) (bW (decide ((1000 : Int) < y_18)))),dO [46,52] 95 (bW (((((decide (y_13 < (1 : Int))) || (decide (a0.Sq < y_14))) || ((decide ((0 : Int) < x_11)) && (decide (y_16 ≤ y_15)))) || (decide (y_17 < (0 : Int)))) || (decide ((1000 : Int) < y_18))))] [] [[(1,⟨24,false,(pW β1 β2 a0)⟩)]] [[],[0,1],[],[0,3],[0,4],[0,5],[0,6],[0,7],[0,8],[0,7],[0,10],[0,11],[0,7],[0,7,12,13],[0,14],[0,15],[0,16],[0,17],[0,18],[0,19],[0,20],[0,21],[0,20],[0,23],[0,24],[0,20],[0,20,25,26],[0,20],[0,20,27,28],[0,20,25,29],[0,20,25,30],[0,31],[0,32],[0,33],[0,34],[0,35],[0,36],[0,35],[0,38],[0,39],[0,40],[0,41],[0,42],[0,43],[0,44],[0,43],[0,46],[0,47],[0,48],[0,49]] [0,1,2,53] rfl rfl (by kernel_rfl) rfl (.r rfl rfl (fun _ q => .fieldP (lt1 rfl) (q.t 0 rfl) fld24_0)<| .r rfl rfl (fun _ q => .loadP (lt1 rfl) (q.t 0 rfl) one22 rfl rfl rfl)<| .p rfl (fun _ q _ => .move (lt1 rfl) (q.t 0 rfl))<| .p rfl (fun _ q _ => .indexRd (enc := eW) (lt1 rfl) (q.t 0 rfl) (q.t 1 rfl) Try.underlying22 sz3 (encI_len .i64) rfl hy_13)<| .p rfl (fun _ q _ => .loadR (v := iW y_13) (lt1 rfl) (q.t 0 rfl) one3 rfl)<| .p rfl (fun _ q _ => .lss (lt1 rfl) (q.t 0 rfl) (.const _ _ _))<| .p rfl (fun _ q _ => .move (lt1 rfl) (q.t 0 rfl))<| .rf rfl rfl rfl rfl rfl rfl (fun hg _ q => .fieldP (lt1 rfl) (q.t 1 rfl) fld24_0)<| .rf rfl rfl rfl rfl rfl rfl (fun hg _ q => .loadP (lt1 rfl) (.gd hg (q.t 1 rfl)) one22 rfl rfl rfl)<| .gf rfl rfl rfl rfl rfl (fun hg _ q _ => .move (lt1 rfl) (q.t 1 rfl))<| .gf rfl rfl rfl rfl rfl (fun hg _ q _ => .indexRd (enc := eW) (lt1 rfl) (.gd hg (q.t 1 rfl)) (.gd hg (q.t 2 rfl)) Try.underlying22 sz3 (encI_len .i64) rfl (gdB hy_14 hg))<| .gf rfl rfl rfl rfl rfl (fun hg _ q _ => .loadR (v := iW y_14) (lt1 rfl) (.gd hg (q.t 1 rfl)) one3 rfl)<| .rf rfl rfl rfl rfl rfl rfl (fun hg _ q => .fieldP (lt1 rfl) (q.t 1 rfl) fld24_2)<| .rf rfl rfl rfl rfl rfl rfl (fun hg _ q => .loadP (lt1 rfl) (.gd hg (q.t 1 rfl)) one3 rfl rfl rfl)<| .gf rfl rfl rfl rfl rfl (fun hg _ q _ => .gtr (lt1 rfl) (.gd hg (q.t 1 rfl)) (.gd hg (q.t 2 rfl)))<| .p rfl (fun _ q _ => .pickOr (lt1 rfl) (q.t 0 rfl) (.const _ _ _) (q.t 1 rfl))<| .p rfl (fun _ q _ => .move (lt1 rfl) (q.t 0 rfl))<| .gf rfl rfl rfl rfl rfl (fun hg _ q _ => .move (lt1 rfl) (q.t 1 rfl))<| .gf rfl rfl rfl rfl rfl (fun hg _ q _ => .gtr (lt1 rfl) (.gd hg (q.t 1 rfl)) (.const _ _ _))<| .gf rfl rfl rfl rfl rfl (fun hg _ q _ => .move (lt1 rfl) (.gd hg (q.t 1 rfl)))<| .read rfl (.c (.gput2 (b := (decide ((0 : Int) < x_11))) (a0 := (!((decide (y_13 < (1 : Int))) || (decide (a0.Sq < y_14))))) (want := true) (j := 19) (dj := 65) rfl (lt1 rfl) (lt1 rfl) (fun E hE => hE.at (k := 0) rfl) (fun hg E hE => .fieldP (lt1 rfl) (hE.t 1 rfl) fld24_0)) .n)<| .read rfl (.c (.gput2 (b := (decide ((0 : Int) < x_11))) (a0 := (!((decide (y_13 < (1 : Int))) || (decide (a0.Sq < y_14))))) (want := true) (j := 19) (dj := 65) rfl (lt1 rfl) (lt1 rfl) (fun E hE => hE.at (k := 0) rfl) (fun hg E hE => .loadP (lt1 rfl) (.gd hg (hE.t 1 rfl)) one22 rfl rfl rfl)) .n)<| .pure rfl (fun H => .gput2 (b := (decide ((0 : Int) < x_11))) (a0 := (!((decide (y_13 < (1 : Int))) || (decide (a0.Sq < y_14))))) (want := true) (j := 19) (dj := 65) rfl (lt1 rfl) (lt1 rfl) (fun E hE => hE.at (k := 0) rfl) (fun hg E hE => .move (lt1 rfl) (hE.t 1 rfl)))<| .pure rfl (fun H => .gput2 (b := (decide ((0 : Int) < x_11))) (a0 := (!((decide (y_13 < (1 : Int))) || (decide (a0.Sq < y_14))))) (want := true) (j := 19) (dj := 65) rfl (lt1 rfl) (lt1 rfl) (fun E hE => hE.at (k := 0) rfl) (fun hg E hE => .indexRd (enc := eW) (lt1 rfl) (.gd hg (hE.t 1 rfl)) (.gd hg (hE.t 2 rfl)) Try.underlying22 sz3 (encI_len .i64) rfl (gdB hy_15 hg)))<| .pure rfl (fun H => .gput2 (b := (decide ((0 : Int) < x_11))) (a0 := (!((decide (y_13 < (1 : Int))) || (decide (a0.Sq < y_14))))) (want := true) (j := 19) (dj := 65) rfl (lt1 rfl) (lt1 rfl) (fun E hE => hE.at (k := 0) rfl) (fun hg E hE => .loadR (v := iW y_15) (lt1 rfl) (.gd hg (hE.t 1 rfl)) one3 rfl))<| .read rfl (.c (.gput2 (b := (decide ((0 : Int) < x_11))) (a0 := (!((decide (y_13 < (1 : Int))) || (decide (a0.Sq < y_14))))) (want := true) (j := 19) (dj := 65) rfl (lt1 rfl) (lt1 rfl) (fun E hE => hE.at (k := 0) rfl) (fun hg E hE => .fieldP (lt1 rfl) (hE.t 1 rfl) fld24_0)) .n)<| .read rfl (.c (.gput2 (b := (decide ((0 : Int) < x_11))) (a0 := (!((decide (y_13 < (1 : Int))) || (decide (a0.Sq < y_14))))) (want := true) (j := 19) (dj := 65) rfl (lt1 rfl) (lt1 rfl) (fun E hE => hE.at (k := 0) rfl) (fun hg E hE => .loadP (lt1 rfl) (.gd hg (hE.t 1 rfl)) one22 rfl rfl rfl)) .n)<| .pure rfl (fun H => .gput2 (b := (decide ((0 : Int) < x_11))) (a0 := (!((decide (y_13 < (1 : Int))) || (decide (a0.Sq < y_14))))) (want := true) (j := 19) (dj := 65) rfl (lt1 rfl) (lt1 rfl) (fun E hE => hE.at (k := 0) rfl) (fun hg E hE => .move (lt1 rfl) (hE.t 1 rfl)))<| .pure rfl (fun H => .gput2 (b := (decide ((0 : Int) < x_11))) (a0 := (!((decide (y_13 < (1 : Int))) || (decide (a0.Sq < y_14))))) (want := true) (j := 19) (dj := 65) rfl (lt1 rfl) (lt1 rfl) (fun E hE => hE.at (k := 0) rfl) (fun hg E hE => .sub (lt1 rfl) (.gd hg (hE.t 1 rfl)) (.const _ _ _)))<| .pure rfl (fun H => .gput2 (b := (decide ((0 : Int) < x_11))) (a0 := (!((decide (y_13 < (1 : Int))) || (decide (a0.Sq < y_14))))) (want := true) (j := 19) (dj := 65) rfl (lt1 rfl) (lt1 rfl) (fun E hE => hE.at (k := 0) rfl) (fun hg E hE => .indexRd (enc := eW) (lt1 rfl) (.gd hg (hE.t 1 rfl)) (.gd hg (hE.t 2 rfl)) Try.underlying22 sz3 (encI_len .i64) rfl (gdB hy_16 hg)))<| .pure rfl (fun H => .gput2 (b := (decide ((0 : Int) < x_11))) (a0 := (!((decide (y_13 < (1 : Int))) || (decide (a0.Sq < y_14))))) (want := true) (j := 19) (dj := 65) rfl (lt1 rfl) (lt1 rfl) (fun E hE => hE.at (k := 0) rfl) (fun hg E hE => .loadR (v := iW y_16) (lt1 rfl) (.gd hg (hE.t 1 rfl)) one3 rfl))<| .pure rfl (fun H => .gput2 (b := (decide ((0 : Int) < x_11))) (a0 := (!((decide (y_13 < (1 : Int))) || (decide (a0.Sq < y_14))))) (want := true) (j := 19) (dj := 65) rfl (lt1 rfl) (lt1 rfl) (fun E hE => hE.at (k := 0) rfl) (fun hg E hE => .geq (lt1 rfl) (.gd hg (hE.t 1 rfl)) (.gd hg (hE.t 2 rfl))))<| .gf rfl rfl rfl rfl rfl (fun hg _ q _ => .pickAnd (lt1 rfl) (.gd hg (q.t 1 rfl)) (.gdAnd hg (q.t 2 rfl)) (.const _ _ _))<| .p rfl (fun _ q _ => .pickOr (lt1 rfl) (q.t 0 rfl) (.const _ _ _) (q.t 1 rfl))<| .p rfl (fun _ q _ => .move (lt1 rfl) (q.t 0 rfl))<| .rf rfl rfl rfl rfl rfl rfl (fun hg _ q => .fieldP (lt1 rfl) (q.t 1 rfl) fld24_1)<| .rf rfl rfl rfl rfl rfl rfl (fun hg _ q => .loadP (lt1 rfl) (.gd hg (q.t 1 rfl)) one22 rfl rfl rfl)<| .gf rfl rfl rfl rfl rfl (fun hg _ q _ => .move (lt1 rfl) (q.t 1 rfl))<| .gf rfl rfl rfl rfl rfl (fun hg _ q _ => .indexRd (enc := eW) (lt1 rfl) (.gd hg (q.t 1 rfl)) (.gd hg (q.t 2 rfl)) Try.underlying22 sz3 (encI_len .i64) rfl (gdB hy_17 hg))<| .gf rfl rfl rfl rfl rfl (fun hg _ q _ => .loadR (v := iW y_17) (lt1 rfl) (.gd hg (q.t 1 rfl)) one3 rfl)<| .gf rfl rfl rfl rfl rfl (fun hg _ q _ => .lss (lt1 rfl) (.gd hg (q.t 1 rfl)) (.const _ _ _))<| .p rfl (fun _ q _ => .pickOr (lt1 rfl) (q.t 0 rfl) (.const _ _ _) (q.t 1 rfl))<| .p rfl (fun _ q _ => .move (lt1 rfl) (q.t 0 rfl))<| .rf rfl rfl rfl rfl rfl rfl (fun hg _ q => .fieldP (lt1 rfl) (q.t 1 rfl) fld24_1)<| .rf rfl rfl rfl rfl rfl rfl (fun hg _ q => .loadP (lt1 rfl) (.gd hg (q.t 1 rfl)) one22 rfl rfl rfl)<| .gf rfl rfl rfl rfl rfl (fun hg _ q _ => .move (lt1 rfl) (q.t 1 rfl))<| .gf rfl rfl rfl rfl rfl (fun hg _ q _ => .indexRd (enc := eW) (lt1 rfl) (.gd hg (q.t 1 rfl)) (.gd hg (q.t 2 rfl)) Try.underlying22 sz3 (encI_len .i64) rfl (gdB hy_18 hg))<| .gf rfl rfl rfl rfl rfl (fun hg _ q _ => .loadR (v := iW y_18) (lt1 rfl) (.gd hg (q.t 1 rfl)) one3 rfl)<| .gf rfl rfl rfl rfl rfl (fun hg _ q _ => .gtr (lt1 rfl) (.gd hg (q.t 1 rfl)) (.const _ _ _))<| .p rfl (fun _ q _ => .pickOr (lt1 rfl) (q.t 0 rfl) (.const _ _ _) (q.t 1 rfl))<| .nil _) rfl rfl ?_
    refine AWP.vc (s' := ⟨[(1,.ptr 1 0),(3,iW (a0.Lq.length : Int)),(4,iW x_11),(95,bW t95_19)],[(1,⟨24,false,(pW β1 β2 a0)⟩)]⟩) (by subst ht95_19; exact VC.sub (.of rfl) (.of rfl)) ?_
    refine AWP.cond (.t rfl) (fun hc => ?_) (fun hc => ?_)
    ·have h := iteT hc h
     refine AWP.sr (.cons (.assign (lt1 rfl) (.const _ _ _))<| .nil _ _ _) ?_
     refine AWP.ret ?_
     obtain rfl := Option.some.inj h
     refine retJ (Res.vc (s' := ⟨[(2,bW false)],[]⟩) (VC.sub (.of rfl) (.n _)) ?_)
     refine Res.drop (H := []) rfl ?_
     exact Res.of rfl (.cons (.tmp rfl) (.nil)) rfl rfl
    ·have h := iteF hc h
     refine AWP.skip ?_
     obtain ⟨t4_20,ht4_20,h⟩ := letS h
     refine AWP.rg (.cons (.move (lt1 rfl) (.t rfl))<| .cons (.add (lt1 rfl) (.t rfl) (.const _ _ _))<| .cons (.assign (lt1 rfl) (.t rfl))<| .nil _ _ _) ?_
     exact endJ t4_20 h (by subst ht4_20; exact VC.sub (.of rfl) (.of rfl))
   ·have h := iteF hc h
    refine AWP.exit ?_
    exact endJ () h (VC.sub (.n _) (.n _))
theorem c49 {β1 : Bool} {β2 : Bool} {β3 : Bool} (n : Nat) (a0 : R23) (a1 : (List Int)) {r : Int} (h : m49 n a0 a1 = some r) : Spec Try.prog 49 [] [.agg (pW β1 β2 a0),rW β3 a1 eW] [] (iW r) [] := by
 refine Spec.of (fn := Try.f49) Try.func49 Try.ntmps49 rfl rfl (le1 rfl) (fun w0 Zs Zb T0 ι0 => ?_)
 unfold m49 at h
 refine AWP.sv (.cons (.box (t := 1) (n := 4) (lt1 rfl) (nm rfl) (.t rfl) (by first | exact ⟨rfl,rfl⟩ | rfl) rfl)<| .cons (.assign (lt1 rfl) (.const _ _ _))<| .nil _ _ _) ⟨[(1,rW β3 a1 eW),(2,.ptr 1 0)],[(1,⟨24,false,(pW β1 β2 a0)⟩)]⟩ rfl rfl ?_
 refine AWP.sv (.cons (.assign (lt1 rfl) (.const _ _ _))<| .nil _ _ _) ⟨[(1,rW β3 a1 eW),(2,.ptr 1 0),(5,iW (0 : Int))],[(1,⟨24,false,(pW β1 β2 a0)⟩)]⟩ rfl rfl ?_
 refine AWP.seq ?_
 refine AWP.sv (.cons (.assign (lt1 rfl) (.const _ _ _))<| .nil _ _ _) ⟨[(1,rW β3 a1 eW),(2,.ptr 1 0),(5,iW (0 : Int)),(6,iW (0 : Int))],[(1,⟨24,false,(pW β1 β2 a0)⟩)]⟩ rfl rfl ?_
 refine AWP.joinB' (S := fun p_12 : Int => ⟨[(5,iW p_12)],[]⟩) h (fun p_12 h => ?_) (fun k_13 h => ?_)
 ·refine AWP.sr (.cons (.move (lt1 rfl) (.t rfl))<| .cons (.assign (lt1 rfl) (.t rfl))<| .nil _ _ _) ?_
  refine AWP.ret ?_
  obtain rfl := Option.some.inj h
  refine retJ (Res.vc (s' := ⟨[(4,iW p_12)],[]⟩) (VC.sub (.of rfl) (.n _)) ?_)
  refine Res.drop (H := []) rfl ?_
  exact Res.of rfl (.cons (.tmp rfl) (.nil)) rfl rfl
 ·refine AWP.vs ⟨[(1,rW β3 a1 eW),(2,.ptr 1 0),(5,iW (0 : Int)),(6,iW (0 : Int))],[(1,⟨24,false,(pW β1 β2 a0)⟩)]⟩ rfl rfl ?_
  refine AWP.loopM (S := fun x_6 : Int × Int => ⟨[(1,rW β3 a1 eW),(2,.ptr 1 0),(5,iW x_6.1),(6,iW x_6.2)],[(1,⟨24,false,(pW β1 β2 a0)⟩)]⟩) (x := ((0 : Int),(0 : Int))) (fun nx_7 x_6 h => ?_) h
  unfold m49_L1 at h
  refine AWP.seq ?_
  refine AWP.sv (.cons (.move (lt1 rfl) (.t rfl))<| .cons (.fieldP (lt1 rfl) (.t rfl) fld24_0)<| .cons (.loadP (lt1 rfl) (.t rfl) one22 rfl rfl rfl)<| .cons (.lenRd (lt1 rfl) (.t rfl) Try.underlying22)<| .cons (.lss (lt1 rfl) (.t rfl) (.t rfl))<| .nil _ _ _) ⟨[(1,rW β3 a1 eW),(2,.ptr 1 0),(5,iW x_6.1),(6,iW x_6.2),(11,bW (decide (x_6.2 < (a0.Lq.length : Int))))],[(1,⟨24,false,(pW β1 β2 a0)⟩)]⟩ rfl rfl ?_
  refine AWP.cond (.t rfl) (fun hc => ?_) (fun hc => ?_)
  ·have h := iteT hc h
   refine AWP.skip ?_
   refine AWP.seq ?_
   refine AWP.block ?_
   obtain ⟨y_8,hy_8,h⟩ := bindS h
   obtain ⟨y_9,hy_9,h⟩ := bindS h
   obtain ⟨t5_10,ht5_10,h⟩ := letS h
   refine AWP.dw mixed [(1,rW β3 a1 eW),(2,.ptr 1 0),(5,iW x_6.1),(6,iW x_6.2),(11,bW (decide (x_6.2 < (a0.Lq.length : Int))))] [(2,[15])] [dO [2] 14 (iW x_6.1),dO [0] 15 (rW β3 a1 eW),dO [3] 16 (iW x_6.2),dO [6,7] 17 (.rptr β3 [iW y_8]),dO [8] 18 (iW y_8),dO [1] 19 (.ptr 1 (0 + 0)),dO [10] 20 (rW β1 a0.Lq eW),dO [3] 21 (iW x_6.2),dO [11,12] 22 (.rptr β1 [iW y_9]),dO [13] 23 (iW y_9),dO [1] 24 (.ptr 1 (0 + 3)),dO [15] 25 (iW a0.Kq),dO [14,16] 26 (iW (IntKind.wrap .i64 (y_9 + a0.Kq))),dO [9,17] 27 (iW (IntKind.wrap .i64 (y_8 * (IntKind.wrap .i64 (y_9 + a0.Kq))))),dO [5,18] 28 (iW (IntKind.wrap .i64 (x_6.1 + (IntKind.wrap .i64 (y_8 * (IntKind.wrap .i64 (y_9 + a0.Kq))))))),dO [19] 5 (iW (IntKind.wrap .i64 (x_6.1 + (IntKind.wrap .i64 (y_8 * (IntKind.wrap .i64 (y_9 + a0.Kq)))))))] [] [[(1,⟨24,false,(pW β1 β2 a0)⟩)]] [[],[],[],[1,3],[1,4],[],[5,6],[],[5,8],[5,9],[],[10,11],[5,12],[1,13],[0,14],[0,15]] [0,1,20,3] rfl rfl (by kernel_rfl) rfl (.p rfl (fun _ q _ => .move (lt1 rfl) (q.t 0 rfl))<| .p rfl (fun _ q _ => .move (lt1 rfl) (q.t 0 rfl))<| .p rfl (fun _ q _ => .move (lt1 rfl) (q.t 0 rfl))<| .p rfl (fun _ q _ => .indexRd (enc := eW) (lt1 rfl) (q.t 0 rfl) (q.t 1 rfl) Try.underlying22 sz3 (encI_len .i64) rfl hy_8)<| .p rfl (fun _ q _ => .loadR (v := iW y_8) (lt1 rfl) (q.t 0 rfl) one3 rfl)<| .r rfl rfl (fun _ q => .fieldP (lt1 rfl) (q.t 0 rfl) fld24_0)<| .r rfl rfl (fun _ q => .loadP (lt1 rfl) (q.t 0 rfl) one22 rfl rfl rfl)<| .p rfl (fun _ q _ => .move (lt1 rfl) (q.t 0 rfl))<| .p rfl (fun _ q _ => .indexRd (enc := eW) (lt1 rfl) (q.t 0 rfl) (q.t 1 rfl) Try.underlying22 sz3 (encI_len .i64) rfl hy_9)<| .p rfl (fun _ q _ => .loadR (v := iW y_9) (lt1 rfl) (q.t 0 rfl) one3 rfl)<| .r rfl rfl (fun _ q => .fieldP (lt1 rfl) (q.t 0 rfl) fld24_3)<| .r rfl rfl (fun _ q => .loadP (lt1 rfl) (q.t 0 rfl) one3 rfl rfl rfl)<| .p rfl (fun _ q _ => .add (lt1 rfl) (q.t 0 rfl) (q.t 1 rfl))<| .p rfl (fun _ q _ => .mul (lt1 rfl) (q.t 0 rfl) (q.t 1 rfl))<| .p rfl (fun _ q _ => .add (lt1 rfl) (q.t 0 rfl) (q.t 1 rfl))<| .p rfl (fun _ q _ => .assign (lt1 rfl) (q.t 0 rfl))<| .nil _) rfl rfl ?_
   refine AWP.vc (s' := ⟨[(1,rW β3 a1 eW),(2,.ptr 1 0),(5,iW t5_10),(6,iW x_6.2)],[(1,⟨24,false,(pW β1 β2 a0)⟩)]⟩) (by subst ht5_10; exact VC.sub (.of rfl) (.of rfl)) ?_
   obtain ⟨t6_11,ht6_11,h⟩ := letS h
   refine AWP.rg (.cons (.move (lt1 rfl) (.t rfl))<| .cons (.add (lt1 rfl) (.t rfl) (.const _ _ _))<| .cons (.assign (lt1 rfl) (.t rfl))<| .nil _ _ _) ?_
   exact endJ (t5_10,t6_11) h (by subst ht6_11; exact VC.sub (.of rfl) (.of rfl))
  ·have h := iteF hc h
   refine AWP.exit ?_
   exact endJ x_6.1 h (VC.sub (.of rfl) (.n _))
theorem c27 {β1 : Bool} {β2 : Bool} {β3 : Bool} (n : Nat) (a0 : R23) (a1 : (List Int)) {r : Bool} (h : m27 n a0 a1 = some r) : Spec Try.prog 27 [] [.agg (pW β1 β2 a0),rW β3 a1 eW] [] (bW r) [] := by
 refine Spec.of (fn := Try.f27) Try.func27 Try.ntmps27 rfl rfl (le1 rfl) (fun w0 Zs Zb T0 ι0 => ?_)
 unfold m27 at h
 refine AWP.sv (.cons (.box (t := 1) (n := 4) (lt1 rfl) (nm rfl) (.t rfl) (by first | exact ⟨rfl,rfl⟩ | rfl) rfl)<| .cons (.assign (lt1 rfl) (.const _ _ _))<| .nil _ _ _) ⟨[(1,rW β3 a1 eW),(2,.ptr 1 0)],[(1,⟨24,false,(pW β1 β2 a0)⟩)]⟩ rfl rfl ?_
 refine AWP.seq ?_
 obtain ⟨y_1,hy_1,h⟩ := bindS h
 refine AWP.sv (.cons (.loadPA (lt1 rfl) (.t rfl) agg24 rfl rfl rfl rfl)<| .cons (.call0 (bw := false) (lt1 rfl) (c12 (β1 := β1) (β2 := β2) n (R23.mk a0.Lq a0.Dq a0.Sq a0.Kq) hy_1) (.cons (.t rfl) (.ren rfl) (.nil)) rfl)<| .cons (.not (lt1 rfl) (.t rfl))<| .cons (.move (lt1 rfl) (.t rfl))<| .guard (j := 3) (dj := 9) rfl (lt1 rfl) rfl (lt1 rfl) (fun hg => .move (lt1 rfl) (.t rfl))<| .guard (j := 3) (dj := 9) rfl (lt1 rfl) rfl (lt1 rfl) (fun hg => .lenRd (lt1 rfl) (.gd hg (.t rfl)) Try.underlying22)<| .guard (j := 3) (dj := 9) rfl (lt1 rfl) rfl (lt1 rfl) (fun hg => .fieldP (lt1 rfl) (.t rfl) fld24_0)<| .guard (j := 3) (dj := 9) rfl (lt1 rfl) rfl (lt1 rfl) (fun hg => .loadP (lt1 rfl) (.gd hg (.t rfl)) one22 rfl rfl rfl)<| .guard (j := 3) (dj := 9) rfl (lt1 rfl) rfl (lt1 rfl) (fun hg => .lenRd (lt1 rfl) (.gd hg (.t rfl)) Try.underlying22)<| .guard (j := 3) (dj := 9) rfl (lt1 rfl) rfl (lt1 rfl) (fun hg => .neq (lt1 rfl) (.gd hg (.t rfl)) (.gd hg (.t rfl)))<| .cons (.pickOr (lt1 rfl) (.t rfl) (.const _ _ _) (.t rfl))<| .nil _ _ _) ⟨[(1,rW β3 a1 eW),(2,.ptr 1 0),(16,bW ((!y_1) || (!decide ((a1.length : Int) = (a0.Lq.length : Int)))))],[(1,⟨24,false,(pW β1 β2 a0)⟩)]⟩ rfl rfl ?_
 refine AWP.cond (.t rfl) (fun hc => ?_) (fun hc => ?_)
 ·have h := iteT hc h
  refine AWP.sr (.cons (.assign (lt1 rfl) (.const _ _ _))<| .nil _ _ _) ?_
  refine AWP.ret ?_
  obtain rfl := Option.some.inj h
  refine retJ (Res.vc (s' := ⟨[(4,bW false)],[]⟩) (VC.sub (.of rfl) (.n _)) ?_)
  refine Res.drop (H := []) rfl ?_
  exact Res.of rfl (.cons (.tmp rfl) (.nil)) rfl rfl
 ·have h := iteF hc h
  refine AWP.skip ?_
  refine AWP.seq ?_
  refine AWP.sv (.cons (.assign (lt1 rfl) (.const _ _ _))<| .nil _ _ _) ⟨[(1,rW β3 a1 eW),(2,.ptr 1 0),(5,iW (0 : Int))],[(1,⟨24,false,(pW β1 β2 a0)⟩)]⟩ rfl rfl ?_
  refine AWP.joinB' (S := fun p_11 : Unit => ⟨[(1,rW β3 a1 eW),(2,.ptr 1 0)],[(1,⟨24,false,(pW β1 β2 a0)⟩)]⟩) h (fun p_11 h => ?_) (fun k_12 h => ?_)
  ·refine AWP.seq ?_
   obtain ⟨y_13,hy_13,h⟩ := bindS h
   refine AWP.dw mixed [(1,rW β3 a1 eW),(2,.ptr 1 0)] [] [dO [1] 35 (.agg (pW β1 β2 a0)),dO [0] 36 (rW β3 a1 eW),dO [2,3] 37 (iW y_13),dO [1] 38 (.ptr 1 (0 + 2)),dO [5] 39 (iW a0.Sq),dO [1] 40 (.ptr 1 (0 + 3)),dO [7] 41 (iW a0.Kq),dO [6,8] 42 (iW (IntKind.wrap .i64 (a0.Sq + a0.Kq))),dO [4,9] 43 (bW (decide (y_13 ≤ (IntKind.wrap .i64 (a0.Sq + a0.Kq))))),dO [10] 4 (bW (decide (y_13 ≤ (IntKind.wrap .i64 (a0.Sq + a0.Kq)))))] [] [[(1,⟨24,false,(pW β1 β2 a0)⟩)]] [[],[],[0,2],[],[3,4],[],[5,6],[3,7],[0,8],[0,9]] [11] rfl rfl (by kernel_rfl) rfl (.r rfl rfl (fun _ q => .loadPA (lt1 rfl) (q.t 0 rfl) agg24 rfl rfl rfl rfl)<| .p rfl (fun _ q _ => .move (lt1 rfl) (q.t 0 rfl))<| .p rfl (fun _ q _ => .call0 (bw := false) (lt1 rfl) (c49 (β1 := β1) (β2 := β2) (β3 := β3) n (R23.mk a0.Lq a0.Dq a0.Sq a0.Kq) a1 hy_13) (.cons (q.t 0 rfl) (.ren rfl) (.cons (q.t 1 rfl) (.ren rfl) (.nil))) rfl)<| .r rfl rfl (fun _ q => .fieldP (lt1 rfl) (q.t 0 rfl) fld24_2)<| .r rfl rfl (fun _ q => .loadP (lt1 rfl) (q.t 0 rfl) one3 rfl rfl rfl)<| .r rfl rfl (fun _ q => .fieldP (lt1 rfl) (q.t 0 rfl) fld24_3)<| .r rfl rfl (fun _ q => .loadP (lt1 rfl) (q.t 0 rfl) one3 rfl rfl rfl)<| .p rfl (fun _ q _ => .add (lt1 rfl) (q.t 0 rfl) (q.t 1 rfl))<| .p rfl (fun _ q _ => .leq (lt1 rfl) (q.t 0 rfl) (q.t 1 rfl))<| .p rfl (fun _ q _ => .assign (lt1 rfl) (q.t 0 rfl))<| .nil _) rfl rfl ?_
   refine AWP.ret ?_
   obtain rfl := Option.some.inj h
   refine retJ (Res.vc (s' := ⟨[(4,bW (decide (y_13 ≤ (IntKind.wrap .i64 (a0.Sq + a0.Kq)))))],[]⟩) (VC.sub (.of rfl) (.n _)) ?_)
   refine Res.drop (H := []) rfl ?_
   exact Res.of rfl (.cons (.tmp rfl) (.nil)) rfl rfl
  ·refine AWP.vs ⟨[(1,rW β3 a1 eW),(2,.ptr 1 0),(5,iW (0 : Int))],[(1,⟨24,false,(pW β1 β2 a0)⟩)]⟩ rfl rfl ?_
   refine AWP.loopM (S := fun x_6 : Int => ⟨[(1,rW β3 a1 eW),(2,.ptr 1 0),(5,iW x_6)],[(1,⟨24,false,(pW β1 β2 a0)⟩)]⟩) (x := (0 : Int)) (fun nx_7 x_6 h => ?_) h
   unfold m27_L1 at h
   refine AWP.seq ?_
   refine AWP.sv (.cons (.move (lt1 rfl) (.t rfl))<| .cons (.move (lt1 rfl) (.t rfl))<| .cons (.lenRd (lt1 rfl) (.t rfl) Try.underlying22)<| .cons (.lss (lt1 rfl) (.t rfl) (.t rfl))<| .nil _ _ _) ⟨[(1,rW β3 a1 eW),(2,.ptr 1 0),(5,iW x_6),(20,bW (decide (x_6 < (a1.length : Int))))],[(1,⟨24,false,(pW β1 β2 a0)⟩)]⟩ rfl rfl ?_
   refine AWP.cond (.t rfl) (fun hc => ?_) (fun hc => ?_)
   ·have h := iteT hc h
    refine AWP.skip ?_
    refine AWP.seq ?_
    refine AWP.block ?_
    obtain ⟨y_8,hy_8,h⟩ := bindS h
    obtain ⟨y_9,hy_9,h⟩ := bindS h
    refine AWP.sv (.cons (.move (lt1 rfl) (.t rfl))<| .cons (.move (lt1 rfl) (.t rfl))<| .cons (.indexRd (enc := eW) (lt1 rfl) (.t rfl) (.t rfl) Try.underlying22 sz3 (encI_len .i64) rfl hy_8)<| .cons (.loadR (v := iW y_8) (lt1 rfl) (.t rfl) one3 rfl)<| .cons (.lss (lt1 rfl) (.t rfl) (.const _ _ _))<| .cons (.move (lt1 rfl) (.t rfl))<| .guard (j := 5) (dj := 28) rfl (lt1 rfl) rfl (lt1 rfl) (fun hg => .move (lt1 rfl) (.t rfl))<| .guard (j := 5) (dj := 28) rfl (lt1 rfl) rfl (lt1 rfl) (fun hg => .move (lt1 rfl) (.t rfl))<| .guard (j := 5) (dj := 28) rfl (lt1 rfl) rfl (lt1 rfl) (fun hg => .indexRd (enc := eW) (lt1 rfl) (.gd hg (.t rfl)) (.gd hg (.t rfl)) Try.underlying22 sz3 (encI_len .i64) rfl (gdB hy_9 hg))<| .guard (j := 5) (dj := 28) rfl (lt1 rfl) rfl (lt1 rfl) (fun hg => .loadR (v := iW y_9) (lt1 rfl) (.gd hg (.t rfl)) one3 rfl)<| .guard (j := 5) (dj := 28) rfl (lt1 rfl) rfl (lt1 rfl) (fun hg => .gtr (lt1 rfl) (.gd hg (.t rfl)) (.const _ _ _))<| .cons (.pickOr (lt1 rfl) (.t rfl) (.const _ _ _) (.t rfl))<| .nil _ _ _) ⟨[(1,rW β3 a1 eW),(2,.ptr 1 0),(5,iW x_6),(34,bW ((decide (y_8 < (0 : Int))) || (decide ((2000 : Int) < y_9))))],[(1,⟨24,false,(pW β1 β2 a0)⟩)]⟩ rfl rfl ?_
    refine AWP.cond (.t rfl) (fun hc => ?_) (fun hc => ?_)
    ·have h := iteT hc h
     refine AWP.sr (.cons (.assign (lt1 rfl) (.const _ _ _))<| .nil _ _ _) ?_
     refine AWP.ret ?_
     obtain rfl := Option.some.inj h
     refine retJ (Res.vc (s' := ⟨[(4,bW false)],[]⟩) (VC.sub (.of rfl) (.n _)) ?_)
     refine Res.drop (H := []) rfl ?_
     exact Res.of rfl (.cons (.tmp rfl) (.nil)) rfl rfl
    ·have h := iteF hc h
     refine AWP.skip ?_
     obtain ⟨t5_10,ht5_10,h⟩ := letS h
     refine AWP.rg (.cons (.move (lt1 rfl) (.t rfl))<| .cons (.add (lt1 rfl) (.t rfl) (.const _ _ _))<| .cons (.assign (lt1 rfl) (.t rfl))<| .nil _ _ _) ?_
     exact endJ t5_10 h (by subst ht5_10; exact VC.sub (.of rfl) (.of rfl))
   ·have h := iteF hc h
    refine AWP.exit ?_
    exact endJ () h (VC.sub (.of rfl) (.of rfl))
theorem c26 {β1 : Bool} {β2 : Bool} {β3 : Bool} (n : Nat) (a0 : R23) (a1 : (List Int)) {r : Bool} (h : m26 n a0 a1 = some r) : Spec Try.prog 26 [] [.agg (pW β1 β2 a0),rW β3 a1 eW] [] (bW r) [] := by
 refine Spec.of (fn := Try.f26) Try.func26 Try.ntmps26 rfl rfl (le1 rfl) (fun w0 Zs Zb T0 ι0 => ?_)
 unfold m26 at h
 refine AWP.sv (.cons (.box (t := 1) (n := 4) (lt1 rfl) (nm rfl) (.t rfl) (by first | exact ⟨rfl,rfl⟩ | rfl) rfl)<| .cons (.assign (lt1 rfl) (.const _ _ _))<| .nil _ _ _) ⟨[(1,rW β3 a1 eW),(2,.ptr 1 0)],[(1,⟨32,false,(pW β1 β2 a0)⟩)]⟩ rfl rfl ?_
 obtain ⟨y_1,hy_1,h⟩ := bindS h
 refine AWP.sv (.cons (.loadPA (lt1 rfl) (.t rfl) agg32 rfl rfl rfl rfl)<| .cons (.move (lt1 rfl) (.t rfl))<| .cons (.call0 (bw := false) (lt1 rfl) (c48 (β1 := β1) (β2 := β2) (β3 := β3) n (R23.mk a0.Lq a0.Dq a0.Sq a0.Kq) a1 hy_1) (.cons (.t rfl) (.ren rfl) (.cons (.t rfl) (.ren rfl) (.nil))) rfl)<| .cons (.move (lt1 rfl) (.t rfl))<| .cons (.extract (lt1 rfl) (.t rfl) rfl)<| .cons (.extract (lt1 rfl) (.t rfl) rfl)<| .cons (.assign (lt1 rfl) (.t rfl))<| .cons (.assign (lt1 rfl) (.t rfl))<| .nil _ _ _) ⟨[(6,bW y_1.2)],[]⟩ rfl rfl ?_
 refine AWP.sr (.cons (.move (lt1 rfl) (.t rfl))<| .cons (.assign (lt1 rfl) (.t rfl))<| .nil _ _ _) ?_
 refine AWP.ret ?_
 obtain rfl := Option.some.inj h
 refine retJ (Res.vc (s' := ⟨[(4,bW y_1.2)],[]⟩) (VC.sub (.of rfl) (.n _)) ?_)
 refine Res.drop (H := []) rfl ?_
 exact Res.of rfl (.cons (.tmp rfl) (.nil)) rfl rfl
theorem c11 {β1 : Bool} {β2 : Bool} (n : Nat) (a0 : R23) {r : Bool} (h : m11 n a0 = some r) : Spec Try.prog 11 [] [.agg (pW β1 β2 a0)] [] (bW r) [] := by
 refine Spec.of (fn := Try.f11) Try.func11 Try.ntmps11 rfl rfl (le1 rfl) (fun w0 Zs Zb T0 ι0 => ?_)
 unfold m11 at h
 refine AWP.sv (.cons (.box (t := 1) (n := 4) (lt1 rfl) (nm rfl) (.t rfl) (by first | exact ⟨rfl,rfl⟩ | rfl) rfl)<| .cons (.assign (lt1 rfl) (.const _ _ _))<| .nil _ _ _) ⟨[(1,.ptr 1 0)],[(1,⟨24,false,(pW β1 β2 a0)⟩)]⟩ rfl rfl ?_
 refine AWP.seq ?_
 refine AWP.sv (.cons (.fieldP (lt1 rfl) (.t rfl) fld24_0)<| .cons (.loadP (lt1 rfl) (.t rfl) one22 rfl rfl rfl)<| .cons (.lenRd (lt1 rfl) (.t rfl) Try.underlying22)<| .cons (.gtr (lt1 rfl) (.t rfl) (.const _ _ _))<| .cons (.move (lt1 rfl) (.t rfl))<| .guard (j := 4) (dj := 8) rfl (lt1 rfl) rfl (lt1 rfl) (fun hg => .fieldP (lt1 rfl) (.t rfl) fld24_1)<| .guard (j := 4) (dj := 8) rfl (lt1 rfl) rfl (lt1 rfl) (fun hg => .loadP (lt1 rfl) (.gd hg (.t rfl)) one22 rfl rfl rfl)<| .guard (j := 4) (dj := 8) rfl (lt1 rfl) rfl (lt1 rfl) (fun hg => .lenRd (lt1 rfl) (.gd hg (.t rfl)) Try.underlying22)<| .guard (j := 4) (dj := 8) rfl (lt1 rfl) rfl (lt1 rfl) (fun hg => .gtr (lt1 rfl) (.gd hg (.t rfl)) (.const _ _ _))<| .cons (.pickOr (lt1 rfl) (.t rfl) (.const _ _ _) (.t rfl))<| .nil _ _ _) ⟨[(1,.ptr 1 0),(13,bW ((decide ((25 : Int) < (a0.Lq.length : Int))) || (decide ((25 : Int) < (a0.Dq.length : Int)))))],[(1,⟨24,false,(pW β1 β2 a0)⟩)]⟩ rfl rfl ?_
 refine AWP.cond (.t rfl) (fun hc => ?_) (fun hc => ?_)
 ·have h := iteT hc h
  refine AWP.sr (.cons (.assign (lt1 rfl) (.const _ _ _))<| .nil _ _ _) ?_
  refine AWP.ret ?_
  obtain rfl := Option.some.inj h
  refine retJ (Res.vc (s' := ⟨[(2,bW false)],[]⟩) (VC.sub (.of rfl) (.n _)) ?_)
  refine Res.drop (H := []) rfl ?_
  exact Res.of rfl (.cons (.tmp rfl) (.nil)) rfl rfl
 ·have h := iteF hc h
  refine AWP.skip ?_
  refine AWP.seq ?_
  obtain ⟨y_1,hy_1,h⟩ := bindS h
  refine AWP.sv (.cons (.loadPA (lt1 rfl) (.t rfl) agg24 rfl rfl rfl rfl)<| .cons (.call0 (bw := false) (lt1 rfl) (c12 (β1 := β1) (β2 := β2) n (R23.mk a0.Lq a0.Dq a0.Sq a0.Kq) hy_1) (.cons (.t rfl) (.ren rfl) (.nil)) rfl)<| .cons (.not (lt1 rfl) (.t rfl))<| .nil _ _ _) ⟨[(1,.ptr 1 0),(16,bW (!y_1))],[(1,⟨24,false,(pW β1 β2 a0)⟩)]⟩ rfl rfl ?_
  refine AWP.cond (.t rfl) (fun hc => ?_) (fun hc => ?_)
  ·have h := iteT hc h
   refine AWP.sr (.cons (.assign (lt1 rfl) (.const _ _ _))<| .nil _ _ _) ?_
   refine AWP.ret ?_
   obtain rfl := Option.some.inj h
   refine retJ (Res.vc (s' := ⟨[(2,bW true)],[]⟩) (VC.sub (.of rfl) (.n _)) ?_)
   refine Res.drop (H := []) rfl ?_
   exact Res.of rfl (.cons (.tmp rfl) (.nil)) rfl rfl
  ·have h := iteF hc h
   refine AWP.skip ?_
   refine AWP.seq ?_
   refine AWP.sv (.cons (.assign (lt1 rfl) (.const _ _ _))<| .nil _ _ _) ⟨[(1,.ptr 1 0),(3,iW (0 : Int))],[(1,⟨24,false,(pW β1 β2 a0)⟩)]⟩ rfl rfl ?_
   refine AWP.joinB' (S := fun p_9 : Unit => ⟨[(1,.ptr 1 0)],[(1,⟨24,false,(pW β1 β2 a0)⟩)]⟩) h (fun p_9 h => ?_) (fun k_10 h => ?_)
   ·refine AWP.seq ?_
    obtain ⟨y_11,hy_11,h⟩ := bindS h
    refine AWP.dw mixed [(1,.ptr 1 0)] [] [dO [0] 30 (.ptr 1 (0 + 0)),dO [1] 31 (rW β1 a0.Lq eW),dO [2] 32 (iW (a0.Lq.length : Int)),dO [3] 33 (bW (decide ((a0.Lq.length : Int) ≤ (6 : Int)))),dO [4] 34 (bW (decide ((a0.Lq.length : Int) ≤ (6 : Int)))),dO [5,0] 35 (.gd (decide ((a0.Lq.length : Int) ≤ (6 : Int))) (.ptr 1 (0 + 2))),dO [5,6] 36 (.gd (decide ((a0.Lq.length : Int) ≤ (6 : Int))) (iW a0.Sq)),dO [5,0] 37 (.gd (decide ((a0.Lq.length : Int) ≤ (6 : Int))) (.ptr 1 (0 + 0))),dO [5,8] 38 (.gd (decide ((a0.Lq.length : Int) ≤ (6 : Int))) (rW β1 a0.Lq eW)),dO [5,0] 39 (.gd (decide ((a0.Lq.length : Int) ≤ (6 : Int))) (.ptr 1 (0 + 0))),dO [5,10] 40 (.gd (decide ((a0.Lq.length : Int) ≤ (6 : Int))) (rW β1 a0.Lq eW)),dO [5,11] 41 (.gd (decide ((a0.Lq.length : Int) ≤ (6 : Int))) (iW (a0.Lq.length : Int))),dO [5,12] 42 (.gd (decide ((a0.Lq.length : Int) ≤ (6 : Int))) (iW (IntKind.wrap .i64 ((a0.Lq.length : Int) - (1 : Int))))),dO [5,9,13] 43 (.gd (decide ((a0.Lq.length : Int) ≤ (6 : Int))) (.rptr β1 [iW y_11])),dO [5,14] 44 (.gd (decide ((a0.Lq.length : Int) ≤ (6 : Int))) (iW y_11)),dO [5,15] 45 (.gd (decide ((a0.Lq.length : Int) ≤ (6 : Int))) (iW (IntKind.wrap .i64 ((12 : Int) * y_11)))),dO [5,7,16] 46 (.gd (decide ((a0.Lq.length : Int) ≤ (6 : Int))) (bW (decide (a0.Sq ≤ (IntKind.wrap .i64 ((12 : Int) * y_11)))))),dO [5,17] 47 (bW ((decide ((a0.Lq.length : Int) ≤ (6 : Int))) && (decide (a0.Sq ≤ (IntKind.wrap .i64 ((12 : Int) * y_11)))))),dO [18] 2 (bW ((decide ((a0.Lq.length : Int) ≤ (6 : Int))) && (decide (a0.Sq ≤ (IntKind.wrap .i64 ((12 : Int) * y_11))))))] [] [[(1,⟨24,false,(pW β1 β2 a0)⟩)]] [[],[0,1],[0,2],[0,3],[0,4],[0,5],[0,6],[0,5],[0,5,7,8],[0,5],[0,5,9,10],[0,5,9,11],[0,5,9,12],[0,5,7,13],[0,5,7,14],[0,5,7,15],[0,16],[0,17],[0,18]] [19] rfl rfl (by kernel_rfl) rfl (.r rfl rfl (fun _ q => .fieldP (lt1 rfl) (q.t 0 rfl) fld24_0)<| .r rfl rfl (fun _ q => .loadP (lt1 rfl) (q.t 0 rfl) one22 rfl rfl rfl)<| .p rfl (fun _ q _ => .lenRd (lt1 rfl) (q.t 0 rfl) Try.underlying22)<| .p rfl (fun _ q _ => .leq (lt1 rfl) (q.t 0 rfl) (.const _ _ _))<| .p rfl (fun _ q _ => .move (lt1 rfl) (q.t 0 rfl))<| .rt rfl rfl rfl rfl rfl rfl (fun hg _ q => .fieldP (lt1 rfl) (q.t 1 rfl) fld24_2)<| .rt rfl rfl rfl rfl rfl rfl (fun hg _ q => .loadP (lt1 rfl) (.gd hg (q.t 1 rfl)) one3 rfl rfl rfl)<| .rt rfl rfl rfl rfl rfl rfl (fun hg _ q => .fieldP (lt1 rfl) (q.t 1 rfl) fld24_0)<| .rt rfl rfl rfl rfl rfl rfl (fun hg _ q => .loadP (lt1 rfl) (.gd hg (q.t 1 rfl)) one22 rfl rfl rfl)<| .rt rfl rfl rfl rfl rfl rfl (fun hg _ q => .fieldP (lt1 rfl) (q.t 1 rfl) fld24_0)<| .rt rfl rfl rfl rfl rfl rfl (fun hg _ q => .loadP (lt1 rfl) (.gd hg (q.t 1 rfl)) one22 rfl rfl rfl)<| .gt rfl rfl rfl rfl rfl (fun hg _ q _ => .lenRd (lt1 rfl) (.gd hg (q.t 1 rfl)) Try.underlying22)<| .gt rfl rfl rfl rfl rfl (fun hg _ q _ => .sub (lt1 rfl) (.gd hg (q.t 1 rfl)) (.const _ _ _))<| .gt rfl rfl rfl rfl rfl (fun hg _ q _ => .indexRd (enc := eW) (lt1 rfl) (.gd hg (q.t 1 rfl)) (.gd hg (q.t 2 rfl)) Try.underlying22 sz3 (encI_len .i64) rfl (gdB hy_11 hg))<| .gt rfl rfl rfl rfl rfl (fun hg _ q _ => .loadR (v := iW y_11) (lt1 rfl) (.gd hg (q.t 1 rfl)) one3 rfl)<| .gt rfl rfl rfl rfl rfl (fun hg _ q _ => .mul (lt1 rfl) (.const _ _ _) (.gd hg (q.t 1 rfl)))<| .gt rfl rfl rfl rfl rfl (fun hg _ q _ => .leq (lt1 rfl) (.gd hg (q.t 1 rfl)) (.gd hg (q.t 2 rfl)))<| .p rfl (fun _ q _ => .pickAnd (lt1 rfl) (q.t 0 rfl) (q.t 1 rfl) (.const _ _ _))<| .p rfl (fun _ q _ => .assign (lt1 rfl) (q.t 0 rfl))<| .nil _) rfl rfl ?_
    refine AWP.ret ?_
    obtain rfl := Option.some.inj h
    refine retJ (Res.vc (s' := ⟨[(2,bW ((decide ((a0.Lq.length : Int) ≤ (6 : Int))) && (decide (a0.Sq ≤ (IntKind.wrap .i64 ((12 : Int) * y_11))))))],[]⟩) (VC.sub (.of rfl) (.n _)) ?_)
    refine Res.drop (H := []) rfl ?_
    exact Res.of rfl (.cons (.tmp rfl) (.nil)) rfl rfl
   ·refine AWP.vs ⟨[(1,.ptr 1 0),(3,iW (0 : Int))],[(1,⟨24,false,(pW β1 β2 a0)⟩)]⟩ rfl rfl ?_
    refine AWP.loopM (S := fun x_5 : Int => ⟨[(1,.ptr 1 0),(3,iW x_5)],[(1,⟨24,false,(pW β1 β2 a0)⟩)]⟩) (x := (0 : Int)) (fun nx_6 x_5 h => ?_) h
    unfold m11_L1 at h
    refine AWP.seq ?_
    refine AWP.sv (.cons (.move (lt1 rfl) (.t rfl))<| .cons (.fieldP (lt1 rfl) (.t rfl) fld24_1)<| .cons (.loadP (lt1 rfl) (.t rfl) one22 rfl rfl rfl)<| .cons (.lenRd (lt1 rfl) (.t rfl) Try.underlying22)<| .cons (.lss (lt1 rfl) (.t rfl) (.t rfl))<| .nil _ _ _) ⟨[(1,.ptr 1 0),(3,iW x_5),(21,bW (decide (x_5 < (a0.Dq.length : Int))))],[(1,⟨24,false,(pW β1 β2 a0)⟩)]⟩ rfl rfl ?_
    refine AWP.cond (.t rfl) (fun hc => ?_) (fun hc => ?_)
    ·have h := iteT hc h
     refine AWP.skip ?_
     refine AWP.seq ?_
     refine AWP.block ?_
     obtain ⟨y_7,hy_7,h⟩ := bindS h
     refine AWP.sv (.cons (.fieldP (lt1 rfl) (.t rfl) fld24_1)<| .cons (.loadP (lt1 rfl) (.t rfl) one22 rfl rfl rfl)<| .cons (.move (lt1 rfl) (.t rfl))<| .cons (.indexRd (enc := eW) (lt1 rfl) (.t rfl) (.t rfl) Try.underlying22 sz3 (encI_len .i64) rfl hy_7)<| .cons (.loadR (v := iW y_7) (lt1 rfl) (.t rfl) one3 rfl)<| .cons (.gtr (lt1 rfl) (.t rfl) (.const _ _ _))<| .nil _ _ _) ⟨[(1,.ptr 1 0),(3,iW x_5),(29,bW (decide ((30 : Int) < y_7)))],[(1,⟨24,false,(pW β1 β2 a0)⟩)]⟩ rfl rfl ?_
     refine AWP.cond (.t rfl) (fun hc => ?_) (fun hc => ?_)
     ·have h := iteT hc h
      refine AWP.sr (.cons (.assign (lt1 rfl) (.const _ _ _))<| .nil _ _ _) ?_
      refine AWP.ret ?_
      obtain rfl := Option.some.inj h
      refine retJ (Res.vc (s' := ⟨[(2,bW false)],[]⟩) (VC.sub (.of rfl) (.n _)) ?_)
      refine Res.drop (H := []) rfl ?_
      exact Res.of rfl (.cons (.tmp rfl) (.nil)) rfl rfl
     ·have h := iteF hc h
      refine AWP.skip ?_
      obtain ⟨t3_8,ht3_8,h⟩ := letS h
      refine AWP.rg (.cons (.move (lt1 rfl) (.t rfl))<| .cons (.add (lt1 rfl) (.t rfl) (.const _ _ _))<| .cons (.assign (lt1 rfl) (.t rfl))<| .nil _ _ _) ?_
      exact endJ t3_8 h (by subst ht3_8; exact VC.sub (.of rfl) (.of rfl))
    ·have h := iteF hc h
     refine AWP.exit ?_
     exact endJ () h (VC.sub (.of rfl) (.of rfl))
theorem c15 {β1 : Bool} {β2 : Bool} (n : Nat) (a0 : (List Int)) (a1 : (List Int)) {r : Bool} (h : m15 n a0 a1 = some r) : Spec Try.prog 15 [] [rW β1 a0 eW,rW β2 a1 eW] [] (bW r) [] := by
 refine Spec.of (fn := Try.f15) Try.func15 Try.ntmps15 rfl rfl (le1 rfl) (fun w0 Zs Zb T0 ι0 => ?_)
 unfold m15 at h
 refine AWP.sv (.cons (.assign (lt1 rfl) (.const _ _ _))<| .nil _ _ _) ⟨[(0,rW β1 a0 eW),(1,rW β2 a1 eW)],[]⟩ rfl rfl ?_
 refine AWP.seq ?_
 refine AWP.sv (.cons (.assign (lt1 rfl) (.const _ _ _))<| .nil _ _ _) ⟨[(0,rW β1 a0 eW),(1,rW β2 a1 eW),(5,iW (0 : Int))],[]⟩ rfl rfl ?_
 refine AWP.joinB' (S := fun p_14 : Unit => ⟨[(0,rW β1 a0 eW),(1,rW β2 a1 eW)],[]⟩) h (fun p_14 h => ?_) (fun k_15 h => ?_)
 ·refine AWP.sr (.cons (.move (lt1 rfl) (.t rfl))<| .cons (.lenRd (lt1 rfl) (.t rfl) Try.underlying22)<| .cons (.move (lt1 rfl) (.t rfl))<| .cons (.lenRd (lt1 rfl) (.t rfl) Try.underlying22)<| .cons (.gtr (lt1 rfl) (.t rfl) (.t rfl))<| .cons (.assign (lt1 rfl) (.t rfl))<| .nil _ _ _) ?_
  refine AWP.ret ?_
  obtain rfl := Option.some.inj h
  refine retJ (Res.vc (s' := ⟨[(4,bW (decide ((a1.length : Int) < (a0.length : Int))))],[]⟩) (VC.sub (.of rfl) (.n _)) ?_)
  refine Res.drop (H := []) rfl ?_
  exact Res.of rfl (.cons (.tmp rfl) (.nil)) rfl rfl
 ·refine AWP.vs ⟨[(0,rW β1 a0 eW),(1,rW β2 a1 eW),(5,iW (0 : Int))],[]⟩ rfl rfl ?_
  refine AWP.loopM (S := fun x_7 : Int => ⟨[(0,rW β1 a0 eW),(1,rW β2 a1 eW),(5,iW x_7)],[]⟩) (x := (0 : Int)) (fun nx_8 x_7 h => ?_) h
  unfold m15_L1 at h
  refine AWP.seq ?_
  refine AWP.sv (.cons (.move (lt1 rfl) (.t rfl))<| .cons (.move (lt1 rfl) (.t rfl))<| .cons (.lenRd (lt1 rfl) (.t rfl) Try.underlying22)<| .cons (.lss (lt1 rfl) (.t rfl) (.t rfl))<| .cons (.move (lt1 rfl) (.t rfl))<| .guard (j := 4) (dj := 10) rfl (lt1 rfl) rfl (lt1 rfl) (fun hg => .move (lt1 rfl) (.t rfl))<| .guard (j := 4) (dj := 10) rfl (lt1 rfl) rfl (lt1 rfl) (fun hg => .move (lt1 rfl) (.t rfl))<| .guard (j := 4) (dj := 10) rfl (lt1 rfl) rfl (lt1 rfl) (fun hg => .lenRd (lt1 rfl) (.gd hg (.t rfl)) Try.underlying22)<| .guard (j := 4) (dj := 10) rfl (lt1 rfl) rfl (lt1 rfl) (fun hg => .lss (lt1 rfl) (.gd hg (.t rfl)) (.gd hg (.t rfl)))<| .cons (.pickAnd (lt1 rfl) (.t rfl) (.t rfl) (.const _ _ _))<| .nil _ _ _) ⟨[(0,rW β1 a0 eW),(1,rW β2 a1 eW),(5,iW x_7),(15,bW ((decide (x_7 < (a0.length : Int))) && (decide (x_7 < (a1.length : Int)))))],[]⟩ rfl rfl ?_
  refine AWP.cond (.t rfl) (fun hc => ?_) (fun hc => ?_)
  ·have h := iteT hc h
   refine AWP.skip ?_
   refine AWP.seq ?_
   refine AWP.block ?_
   refine AWP.seq ?_
   obtain ⟨y_9,hy_9,h⟩ := bindS h
   obtain ⟨y_10,hy_10,h⟩ := bindS h
   refine AWP.dw mixed [(0,rW β1 a0 eW),(1,rW β2 a1 eW),(5,iW x_7),(15,bW ((decide (x_7 < (a0.length : Int))) && (decide (x_7 < (a1.length : Int)))))] [] [dO [0] 18 (rW β1 a0 eW),dO [2] 19 (iW x_7),dO [4,5] 20 (.rptr β1 [iW y_9]),dO [6] 21 (iW y_9),dO [1] 22 (rW β2 a1 eW),dO [2] 23 (iW x_7),dO [8,9] 24 (.rptr β2 [iW y_10]),dO [10] 25 (iW y_10),dO [7,11] 26 (bW (!decide (y_9 = y_10)))] [] [[]] [[],[],[0,2],[0,3],[],[],[4,6],[4,7],[0,8]] [0,1,2,12] rfl rfl (by kernel_rfl) rfl (.p rfl (fun _ q _ => .move (lt1 rfl) (q.t 0 rfl))<| .p rfl (fun _ q _ => .move (lt1 rfl) (q.t 0 rfl))<| .p rfl (fun _ q _ => .indexRd (enc := eW) (lt1 rfl) (q.t 0 rfl) (q.t 1 rfl) Try.underlying22 sz3 (encI_len .i64) rfl hy_9)<| .p rfl (fun _ q _ => .loadR (v := iW y_9) (lt1 rfl) (q.t 0 rfl) one3 rfl)<| .p rfl (fun _ q _ => .move (lt1 rfl) (q.t 0 rfl))<| .p rfl (fun _ q _ => .move (lt1 rfl) (q.t 0 rfl))<| .p rfl (fun _ q _ => .indexRd (enc := eW) (lt1 rfl) (q.t 0 rfl) (q.t 1 rfl) Try.underlying22 sz3 (encI_len .i64) rfl hy_10)<| .p rfl (fun _ q _ => .loadR (v := iW y_10) (lt1 rfl) (q.t 0 rfl) one3 rfl)<| .p rfl (fun _ q _ => .neq (lt1 rfl) (q.t 0 rfl) (q.t 1 rfl))<| .nil _) rfl rfl ?_
   refine AWP.vs ⟨[(0,rW β1 a0 eW),(1,rW β2 a1 eW),(5,iW x_7),(26,bW (!decide (y_9 = y_10)))],[]⟩ rfl rfl ?_
   refine AWP.cond (.t rfl) (fun hc => ?_) (fun hc => ?_)
   ·have h := iteT hc h
    refine AWP.seq ?_
    obtain ⟨y_11,hy_11,h⟩ := bindS h
    obtain ⟨y_12,hy_12,h⟩ := bindS h
    refine AWP.dw mixed [(0,rW β1 a0 eW),(1,rW β2 a1 eW),(5,iW x_7),(26,bW (!decide (y_9 = y_10)))] [] [dO [0] 27 (rW β1 a0 eW),dO [2] 28 (iW x_7),dO [4,5] 29 (.rptr β1 [iW y_11]),dO [6] 30 (iW y_11),dO [1] 31 (rW β2 a1 eW),dO [2] 32 (iW x_7),dO [8,9] 33 (.rptr β2 [iW y_12]),dO [10] 34 (iW y_12),dO [7,11] 35 (bW (decide (y_12 < y_11))),dO [12] 4 (bW (decide (y_12 < y_11)))] [] [[]] [[],[],[0,2],[0,3],[],[],[4,6],[4,7],[0,8],[0,9]] [13] rfl rfl (by kernel_rfl) rfl (.p rfl (fun _ q _ => .move (lt1 rfl) (q.t 0 rfl))<| .p rfl (fun _ q _ => .move (lt1 rfl) (q.t 0 rfl))<| .p rfl (fun _ q _ => .indexRd (enc := eW) (lt1 rfl) (q.t 0 rfl) (q.t 1 rfl) Try.underlying22 sz3 (encI_len .i64) rfl hy_11)<| .p rfl (fun _ q _ => .loadR (v := iW y_11) (lt1 rfl) (q.t 0 rfl) one3 rfl)<| .p rfl (fun _ q _ => .move (lt1 rfl) (q.t 0 rfl))<| .p rfl (fun _ q _ => .move (lt1 rfl) (q.t 0 rfl))<| .p rfl (fun _ q _ => .indexRd (enc := eW) (lt1 rfl) (q.t 0 rfl) (q.t 1 rfl) Try.underlying22 sz3 (encI_len .i64) rfl hy_12)<| .p rfl (fun _ q _ => .loadR (v := iW y_12) (lt1 rfl) (q.t 0 rfl) one3 rfl)<| .p rfl (fun _ q _ => .gtr (lt1 rfl) (q.t 0 rfl) (q.t 1 rfl))<| .p rfl (fun _ q _ => .assign (lt1 rfl) (q.t 0 rfl))<| .nil _) rfl rfl ?_
    refine AWP.ret ?_
    obtain rfl := Option.some.inj h
    refine retJ (Res.vc (s' := ⟨[(4,bW (decide (y_12 < y_11)))],[]⟩) (VC.sub (.of rfl) (.n _)) ?_)
    refine Res.drop (H := []) rfl ?_
    exact Res.of rfl (.cons (.tmp rfl) (.nil)) rfl rfl
   ·have h := iteF hc h
    refine AWP.skip ?_
    obtain ⟨t5_13,ht5_13,h⟩ := letS h
    refine AWP.rg (.cons (.move (lt1 rfl) (.t rfl))<| .cons (.add (lt1 rfl) (.t rfl) (.const _ _ _))<| .cons (.assign (lt1 rfl) (.t rfl))<| .nil _ _ _) ?_
    exact endJ t5_13 h (by subst ht5_13; exact VC.sub (.of rfl) (.n _))
  ·have h := iteF hc h
   refine AWP.exit ?_
   exact endJ () h (VC.sub (.of rfl) (.n _))
theorem c29 {β1 : Bool} (n : Nat) (a0 : (List R56)) {r : Bool} (h : m29 n a0 = some r) : Spec Try.prog 29 [] [rW β1 a0 e56] [] (bW r) [] := by
 refine Spec.of (fn := Try.f29) Try.func29 Try.ntmps29 rfl rfl (le1 rfl) (fun w0 Zs Zb T0 ι0 => ?_)
 unfold m29 at h
 refine AWP.sv (.cons (.assign (lt1 rfl) (.const _ _ _))<| .nil _ _ _) ⟨[(0,rW β1 a0 e56)],[]⟩ rfl rfl ?_
 refine AWP.seq ?_
 refine AWP.sv (.cons (.assign (lt1 rfl) (.const _ _ _))<| .nil _ _ _) ⟨[(0,rW β1 a0 e56),(3,iW (0 : Int))],[]⟩ rfl rfl ?_
 refine AWP.joinB' (S := fun p_10 : Unit => ⟨[(0,rW β1 a0 e56)],[]⟩) h (fun p_10 h => ?_) (fun k_11 h => ?_)
 ·refine AWP.sr (.cons (.move (lt1 rfl) (.t rfl))<| .cons (.lenRd (lt1 rfl) (.t rfl) Try.underlying49)<| .cons (.leq (lt1 rfl) (.t rfl) (.const _ _ _))<| .cons (.assign (lt1 rfl) (.t rfl))<| .nil _ _ _) ?_
  refine AWP.ret ?_
  obtain rfl := Option.some.inj h
  refine retJ (Res.vc (s' := ⟨[(2,bW (decide ((a0.length : Int) ≤ (12 : Int))))],[]⟩) (VC.sub (.of rfl) (.n _)) ?_)
  refine Res.drop (H := []) rfl ?_
  exact Res.of rfl (.cons (.tmp rfl) (.nil)) rfl rfl
 ·refine AWP.vs ⟨[(0,rW β1 a0 e56),(3,iW (0 : Int))],[]⟩ rfl rfl ?_
  refine AWP.loopM (S := fun x_5 : Int => ⟨[(0,rW β1 a0 e56),(3,iW x_5)],[]⟩) (x := (0 : Int)) (fun nx_6 x_5 h => ?_) h
  unfold m29_L1 at h
  refine AWP.seq ?_
  refine AWP.sv (.cons (.move (lt1 rfl) (.t rfl))<| .cons (.move (lt1 rfl) (.t rfl))<| .cons (.lenRd (lt1 rfl) (.t rfl) Try.underlying49)<| .cons (.lss (lt1 rfl) (.t rfl) (.t rfl))<| .nil _ _ _) ⟨[(0,rW β1 a0 e56),(3,iW x_5),(7,bW (decide (x_5 < (a0.length : Int))))],[]⟩ rfl rfl ?_
  refine AWP.cond (.t rfl) (fun hc => ?_) (fun hc => ?_)
  ·have h := iteT hc h
   refine AWP.skip ?_
   refine AWP.seq ?_
   refine AWP.block ?_
   obtain ⟨y_7,hy_7,h⟩ := bindS h
   obtain ⟨y_8,hy_8,h⟩ := bindS h
   refine AWP.sv (.cons (.move (lt1 rfl) (.t rfl))<| .cons (.move (lt1 rfl) (.t rfl))<| .cons (.indexRd (enc := e56) (lt1 rfl) (.t rfl) (.t rfl) Try.underlying49 sz78 encR56_len rfl hy_7)<| .cons (.fieldR (lt1 rfl) (.t rfl) fld78_0 rfl)<| .cons (.loadR (v := rW β1 y_7.Pq eW) (lt1 rfl) (.t rfl) one22 rfl)<| .cons (.lenRd (lt1 rfl) (.t rfl) Try.underlying22)<| .cons (.gtr (lt1 rfl) (.t rfl) (.const _ _ _))<| .cons (.move (lt1 rfl) (.t rfl))<| .guard (j := 7) (dj := 17) rfl (lt1 rfl) rfl (lt1 rfl) (fun hg => .move (lt1 rfl) (.t rfl))<| .guard (j := 7) (dj := 17) rfl (lt1 rfl) rfl (lt1 rfl) (fun hg => .move (lt1 rfl) (.t rfl))<| .guard (j := 7) (dj := 17) rfl (lt1 rfl) rfl (lt1 rfl) (fun hg => .indexRd (enc := e56) (lt1 rfl) (.gd hg (.t rfl)) (.gd hg (.t rfl)) Try.underlying49 sz78 encR56_len rfl (gdB hy_8 hg))<| .guard (j := 7) (dj := 17) rfl (lt1 rfl) rfl (lt1 rfl) (fun hg => .fieldR (lt1 rfl) (.gd hg (.t rfl)) fld78_1 rfl)<| .guard (j := 7) (dj := 17) rfl (lt1 rfl) rfl (lt1 rfl) (fun hg => .loadR (v := iW y_8.Cq) (lt1 rfl) (.gd hg (.t rfl)) one3 rfl)<| .guard (j := 7) (dj := 17) rfl (lt1 rfl) rfl (lt1 rfl) (fun hg => .gtr (lt1 rfl) (.gd hg (.t rfl)) (.const _ _ _))<| .cons (.pickOr (lt1 rfl) (.t rfl) (.const _ _ _) (.t rfl))<| .nil _ _ _) ⟨[(0,rW β1 a0 e56),(3,iW x_5),(24,bW ((decide ((25 : Int) < (y_7.Pq.length : Int))) || (decide ((40 : Int) < y_8.Cq))))],[]⟩ rfl rfl ?_
   refine AWP.cond (.t rfl) (fun hc => ?_) (fun hc => ?_)
   ·have h := iteT hc h
    refine AWP.sr (.cons (.assign (lt1 rfl) (.const _ _ _))<| .nil _ _ _) ?_
    refine AWP.ret ?_
    obtain rfl := Option.some.inj h
    refine retJ (Res.vc (s' := ⟨[(2,bW false)],[]⟩) (VC.sub (.of rfl) (.n _)) ?_)
    refine Res.drop (H := []) rfl ?_
    exact Res.of rfl (.cons (.tmp rfl) (.nil)) rfl rfl
   ·have h := iteF hc h
    refine AWP.skip ?_
    obtain ⟨t3_9,ht3_9,h⟩ := letS h
    refine AWP.rg (.cons (.move (lt1 rfl) (.t rfl))<| .cons (.add (lt1 rfl) (.t rfl) (.const _ _ _))<| .cons (.assign (lt1 rfl) (.t rfl))<| .nil _ _ _) ?_
    exact endJ t3_9 h (by subst ht3_9; exact VC.sub (.of rfl) (.n _))
  ·have h := iteF hc h
   refine AWP.exit ?_
   exact endJ () h (VC.sub (.of rfl) (.n _))
theorem c30 {β1 : Bool} {β2 : Bool} {β3 : Bool} (n : Nat) (a0 : R23) (a1 : (List R56)) {r : Bool} (h : m30 n a0 a1 = some r) : Spec Try.prog 30 [] [.agg (pW β1 β2 a0),rW β3 a1 e56] [] (bW r) [] := by
 refine Spec.of (fn := Try.f30) Try.func30 Try.ntmps30 rfl rfl (le1 rfl) (fun w0 Zs Zb T0 ι0 => ?_)
 unfold m30 at h
 refine AWP.sv (.cons (.box (t := 1) (n := 4) (lt1 rfl) (nm rfl) (.t rfl) (by first | exact ⟨rfl,rfl⟩ | rfl) rfl)<| .cons (.assign (lt1 rfl) (.const _ _ _))<| .nil _ _ _) ⟨[(1,rW β3 a1 e56),(2,.ptr 1 0)],[(1,⟨24,false,(pW β1 β2 a0)⟩)]⟩ rfl rfl ?_
 refine AWP.seq ?_
 obtain ⟨y_1,hy_1,h⟩ := bindS h
 refine AWP.sv (.cons (.loadPA (lt1 rfl) (.t rfl) agg24 rfl rfl rfl rfl)<| .cons (.call0 (bw := false) (lt1 rfl) (c12 (β1 := β1) (β2 := β2) n (R23.mk a0.Lq a0.Dq a0.Sq a0.Kq) hy_1) (.cons (.t rfl) (.ren rfl) (.nil)) rfl)<| .cons (.not (lt1 rfl) (.t rfl))<| .cons (.move (lt1 rfl) (.t rfl))<| .guard (j := 3) (dj := 9) rfl (lt1 rfl) rfl (lt1 rfl) (fun hg => .move (lt1 rfl) (.t rfl))<| .guard (j := 3) (dj := 9) rfl (lt1 rfl) rfl (lt1 rfl) (fun hg => .lenRd (lt1 rfl) (.gd hg (.t rfl)) Try.underlying49)<| .guard (j := 3) (dj := 9) rfl (lt1 rfl) rfl (lt1 rfl) (fun hg => .gtr (lt1 rfl) (.gd hg (.t rfl)) (.const _ _ _))<| .cons (.pickOr (lt1 rfl) (.t rfl) (.const _ _ _) (.t rfl))<| .nil _ _ _) ⟨[(1,rW β3 a1 e56),(2,.ptr 1 0),(13,bW ((!y_1) || (decide ((1000 : Int) < (a1.length : Int)))))],[(1,⟨24,false,(pW β1 β2 a0)⟩)]⟩ rfl rfl ?_
 refine AWP.cond (.t rfl) (fun hc => ?_) (fun hc => ?_)
 ·have h := iteT hc h
  refine AWP.sr (.cons (.assign (lt1 rfl) (.const _ _ _))<| .nil _ _ _) ?_
  refine AWP.ret ?_
  obtain rfl := Option.some.inj h
  refine retJ (Res.vc (s' := ⟨[(4,bW false)],[]⟩) (VC.sub (.of rfl) (.n _)) ?_)
  refine Res.drop (H := []) rfl ?_
  exact Res.of rfl (.cons (.tmp rfl) (.nil)) rfl rfl
 ·have h := iteF hc h
  refine AWP.skip ?_
  refine AWP.seq ?_
  refine AWP.sv (.cons (.assign (lt1 rfl) (.const _ _ _))<| .nil _ _ _) ⟨[(1,rW β3 a1 e56),(2,.ptr 1 0),(5,iW (0 : Int))],[(1,⟨24,false,(pW β1 β2 a0)⟩)]⟩ rfl rfl ?_
  refine AWP.joinB' (S := fun p_15 : Unit => ⟨[],[]⟩) h (fun p_15 h => ?_) (fun k_16 h => ?_)
  ·refine AWP.sr (.cons (.assign (lt1 rfl) (.const _ _ _))<| .nil _ _ _) ?_
   refine AWP.ret ?_
   obtain rfl := Option.some.inj h
   refine retJ (Res.vc (s' := ⟨[(4,bW true)],[]⟩) (VC.sub (.of rfl) (.n _)) ?_)
   refine Res.drop (H := []) rfl ?_
   exact Res.of rfl (.cons (.tmp rfl) (.nil)) rfl rfl
  ·refine AWP.vs ⟨[(1,rW β3 a1 e56),(2,.ptr 1 0),(5,iW (0 : Int))],[(1,⟨24,false,(pW β1 β2 a0)⟩)]⟩ rfl rfl ?_
   refine AWP.loopM (S := fun x_8 : Int => ⟨[(1,rW β3 a1 e56),(2,.ptr 1 0),(5,iW x_8)],[(1,⟨24,false,(pW β1 β2 a0)⟩)]⟩) (x := (0 : Int)) (fun nx_9 x_8 h => ?_) h
   unfold m30_L1 at h
   refine AWP.seq ?_
   refine AWP.sv (.cons (.move (lt1 rfl) (.t rfl))<| .cons (.move (lt1 rfl) (.t rfl))<| .cons (.lenRd (lt1 rfl) (.t rfl) Try.underlying49)<| .cons (.lss (lt1 rfl) (.t rfl) (.t rfl))<| .nil _ _ _) ⟨[(1,rW β3 a1 e56),(2,.ptr 1 0),(5,iW x_8),(17,bW (decide (x_8 < (a1.length : Int))))],[(1,⟨24,false,(pW β1 β2 a0)⟩)]⟩ rfl rfl ?_
   refine AWP.cond (.t rfl) (fun hc => ?_) (fun hc => ?_)
   ·have h := iteT hc h
    refine AWP.skip ?_
    refine AWP.seq ?_
    refine AWP.block ?_
    refine AWP.seq ?_
    obtain ⟨y_10,hy_10,h⟩ := bindS h
    obtain ⟨y_11,hy_11,h⟩ := bindS h
    obtain ⟨y_12,hy_12,h⟩ := bindS h
    obtain ⟨y_13,hy_13,h⟩ := bindS h
    refine AWP.dw mixed [(1,rW β3 a1 e56),(2,.ptr 1 0),(5,iW x_8),(17,bW (decide (x_8 < (a1.length : Int))))] [] [dO [1] 20 (.agg (pW β1 β2 a0)),dO [0] 21 (rW β3 a1 e56),dO [2] 22 (iW x_8),dO [5,6] 23 (.rptr β3 [rW false y_10.Pq eW,iW y_10.Cq]),dO [7] 24 (.rptr β3 [rW false y_10.Pq eW,iW y_10.Cq]),dO [8] 25 (rW β3 y_10.Pq eW),dO [4,9] 26 (bW y_11),dO [10] 27 (bW (!y_11)),dO [11] 28 (bW (!y_11)),dO [12,0] 29 (.gd (!(!y_11)) (rW β3 a1 e56)),dO [12,2] 30 (.gd (!(!y_11)) (iW x_8)),dO [12,13,14] 31 (.gd (!(!y_11)) (.rptr β3 [rW false y_12.Pq eW,iW y_12.Cq])),dO [12,15] 32 (.gd (!(!y_11)) (.rptr β3 [iW y_12.Cq])),dO [12,16] 33 (.gd (!(!y_11)) (iW y_12.Cq)),dO [12,17] 34 (.gd (!(!y_11)) (bW (decide (y_12.Cq < (1 : Int))))),dO [12,18] 35 (bW ((!y_11) || (decide (y_12.Cq < (1 : Int))))),dO [19] 36 (bW ((!y_11) || (decide (y_12.Cq < (1 : Int))))),dO [20,0] 37 (.gd (!((!y_11) || (decide (y_12.Cq < (1 : Int))))) (rW β3 a1 e56)),dO [20,2] 38 (.gd (!((!y_11) || (decide (y_12.Cq < (1 : Int))))) (iW x_8)),dO [20,21,22] 39 (.gd (!((!y_11) || (decide (y_12.Cq < (1 : Int))))) (.rptr β3 [rW false y_13.Pq eW,iW y_13.Cq])),dO [20,23] 40 (.gd (!((!y_11) || (decide (y_12.Cq < (1 : Int))))) (.rptr β3 [iW y_13.Cq])),dO [20,24] 41 (.gd (!((!y_11) || (decide (y_12.Cq < (1 : Int))))) (iW y_13.Cq)),dO [20,25] 42 (.gd (!((!y_11) || (decide (y_12.Cq < (1 : Int))))) (bW (decide ((1000 : Int) < y_13.Cq)))),dO [20,26] 43 (bW (((!y_11) || (decide (y_12.Cq < (1 : Int)))) || (decide ((1000 : Int) < y_13.Cq))))] [] [[(1,⟨24,false,(pW β1 β2 a0)⟩)]] [[],[],[],[1,3],[1,4],[1,5],[0,6],[0,7],[0,8],[0,9],[0,9],[0,11],[0,12],[0,13],[0,14],[0,15],[0,16],[0,17],[0,17],[0,19],[0,20],[0,21],[0,22],[0,23]] [0,1,2,27] rfl rfl (by kernel_rfl) rfl (.r rfl rfl (fun _ q => .loadPA (lt1 rfl) (q.t 0 rfl) agg24 rfl rfl rfl rfl)<| .p rfl (fun _ q _ => .move (lt1 rfl) (q.t 0 rfl))<| .p rfl (fun _ q _ => .move (lt1 rfl) (q.t 0 rfl))<| .p rfl (fun _ q _ => .indexRd (enc := e56) (lt1 rfl) (q.t 0 rfl) (q.t 1 rfl) Try.underlying49 sz78 encR56_len rfl hy_10)<| .p rfl (fun _ q _ => .fieldR (lt1 rfl) (q.t 0 rfl) fld78_0 rfl)<| .p rfl (fun _ q _ => .loadR (v := rW β3 y_10.Pq eW) (lt1 rfl) (q.t 0 rfl) one22 rfl)<| .p rfl (fun _ q _ => .call0 (bw := false) (lt1 rfl) (c27 (β1 := β1) (β2 := β2) (β3 := β3) n (R23.mk a0.Lq a0.Dq a0.Sq a0.Kq) y_10.Pq hy_11) (.cons (q.t 0 rfl) (.ren rfl) (.cons (q.t 1 rfl) (.ren rfl) (.nil))) rfl)<| .p rfl (fun _ q _ => .not (lt1 rfl) (q.t 0 rfl))<| .p rfl (fun _ q _ => .move (lt1 rfl) (q.t 0 rfl))<| .gf rfl rfl rfl rfl rfl (fun hg _ q _ => .move (lt1 rfl) (q.t 1 rfl))<| .gf rfl rfl rfl rfl rfl (fun hg _ q _ => .move (lt1 rfl) (q.t 1 rfl))<| .gf rfl rfl rfl rfl rfl (fun hg _ q _ => .indexRd (enc := e56) (lt1 rfl) (.gd hg (q.t 1 rfl)) (.gd hg (q.t 2 rfl)) Try.underlying49 sz78 encR56_len rfl (gdB hy_12 hg))<| .gf rfl rfl rfl rfl rfl (fun hg _ q _ => .fieldR (sub := [iW y_12.Cq]) (lt1 rfl) (.gd hg (q.t 1 rfl)) fld78_1 rfl)<| .gf rfl rfl rfl rfl rfl (fun hg _ q _ => .loadR (v := iW y_12.Cq) (lt1 rfl) (.gd hg (q.t 1 rfl)) one3 rfl)<| .gf rfl rfl rfl rfl rfl (fun hg _ q _ => .lss (lt1 rfl) (.gd hg (q.t 1 rfl)) (.const _ _ _))<| .p rfl (fun _ q _ => .pickOr (lt1 rfl) (q.t 0 rfl) (.const _ _ _) (q.t 1 rfl))<| .p rfl (fun _ q _ => .move (lt1 rfl) (q.t 0 rfl))<| .gf rfl rfl rfl rfl rfl (fun hg _ q _ => .move (lt1 rfl) (q.t 1 rfl))<| .gf rfl rfl rfl rfl rfl (fun hg _ q _ => .move (lt1 rfl) (q.t 1 rfl))<| .gf rfl rfl rfl rfl rfl (fun hg _ q _ => .indexRd (enc := e56) (lt1 rfl) (.gd hg (q.t 1 rfl)) (.gd hg (q.t 2 rfl)) Try.underlying49 sz78 encR56_len rfl (gdB hy_13 hg))<| .gf rfl rfl rfl rfl rfl (fun hg _ q _ => .fieldR (sub := [iW y_13.Cq]) (lt1 rfl) (.gd hg (q.t 1 rfl)) fld78_1 rfl)<| .gf rfl rfl rfl rfl rfl (fun hg _ q _ => .loadR (v := iW y_13.Cq) (lt1 rfl) (.gd hg (q.t 1 rfl)) one3 rfl)<| .gf rfl rfl rfl rfl rfl (fun hg _ q _ => .gtr (lt1 rfl) (.gd hg (q.t 1 rfl)) (.const _ _ _))<| .p rfl (fun _ q _ => .pickOr (lt1 rfl) (q.t 0 rfl) (.const _ _ _) (q.t 1 rfl))<| .nil _) rfl rfl ?_
    refine AWP.vs ⟨[(1,rW β3 a1 e56),(2,.ptr 1 0),(5,iW x_8),(43,bW (((!y_11) || (decide (y_12.Cq < (1 : Int)))) || (decide ((1000 : Int) < y_13.Cq))))],[(1,⟨24,false,(pW β1 β2 a0)⟩)]⟩ rfl rfl ?_
    refine AWP.cond (.t rfl) (fun hc => ?_) (fun hc => ?_)
    ·have h := iteT hc h
     refine AWP.sr (.cons (.assign (lt1 rfl) (.const _ _ _))<| .nil _ _ _) ?_
     refine AWP.ret ?_
     obtain rfl := Option.some.inj h
     refine retJ (Res.vc (s' := ⟨[(4,bW false)],[]⟩) (VC.sub (.of rfl) (.n _)) ?_)
     refine Res.drop (H := []) rfl ?_
     exact Res.of rfl (.cons (.tmp rfl) (.nil)) rfl rfl
    ·have h := iteF hc h
     refine AWP.skip ?_
     obtain ⟨t5_14,ht5_14,h⟩ := letS h
     refine AWP.rg (.cons (.move (lt1 rfl) (.t rfl))<| .cons (.add (lt1 rfl) (.t rfl) (.const _ _ _))<| .cons (.assign (lt1 rfl) (.t rfl))<| .nil _ _ _) ?_
     exact endJ t5_14 h (by subst ht5_14; exact VC.sub (.of rfl) (.of rfl))
   ·have h := iteF hc h
    refine AWP.exit ?_
    exact endJ () h (VC.sub (.n _) (.n _))
theorem c32 (n : Nat) (a0 : (List R56)) {r : (List R56)} (h : m32 n a0 = some r) : Spec Try.prog 32 [] [rW false a0 e56] [] (rW false r e56) [] := by
 refine Spec.of (fn := Try.f32) Try.func32 Try.ntmps32 rfl rfl (le1 rfl) (fun w0 Zs Zb T0 ι0 => ?_)
 unfold m32 at h
 refine AWP.sv (.cons (.assign (lt1 rfl) (.const _ _ _))<| .nil _ _ _) ⟨[(0,rW false a0 e56)],[]⟩ rfl rfl ?_
 refine AWP.sv (.cons (.assign (lt1 rfl) (.const _ _ _))<| .nil _ _ _) ⟨[(0,rW false a0 e56),(3,.sc (.slice none 0 0))],[]⟩ rfl rfl ?_
 refine AWP.seq ?_
 refine AWP.sv (.cons (.move (lt1 rfl) (.t rfl))<| .cons (.lenRd (lt1 rfl) (.t rfl) Try.underlying49)<| .cons (.move (lt1 rfl) (.const _ _ _))<| .nil _ _ _) ⟨[(3,.sc (.slice none 0 0)),(6,rW false a0 e56),(7,iW (a0.length : Int)),(8,iW (0 : Int))],[]⟩ rfl rfl ?_
 refine AWP.joinB' (S := fun p_14 : (List R56) => ⟨[(3,.own 1 2 0 p_14.length)],[(1,⟨57,true,p_14.flatMap e56⟩)]⟩) h (fun p_14 h => ?_) (fun k_15 h => ?_)
 ·refine AWP.sr (.cons (.move (lt1 rfl) (.t rfl))<| .cons (.assign (lt1 rfl) (.t rfl))<| .nil _ _ _) ?_
  refine AWP.ret ?_
  obtain rfl := Option.some.inj h
  refine retJ (Res.vc (s' := ⟨[(2,rW false p_14 e56)],[]⟩) (VC.trans (VC.frz (d := 2) (t := 1) rfl rfl encR56_len) (VC.sub (.of rfl) (.n _))) ?_)
  refine Res.drop (H := []) rfl ?_
  exact Res.of rfl (.cons (.tmp rfl) (.nil)) rfl rfl
 ·refine AWP.vc (VC.nilOwn (d := 3) (t := 1) (sz := 2) (E := 57) rfl (nm rfl)) ?_
  refine AWP.vs ⟨[(3,.own 1 2 0 ([] : List R56).length),(6,rW false a0 e56),(7,iW (a0.length : Int)),(8,iW (0 : Int))],[(1,⟨57,true,([] : List R56).flatMap e56⟩)]⟩ rfl rfl ?_
  refine AWP.loopM (S := fun x_9 : Int × (List R56) => ⟨[(3,.own 1 2 0 x_9.2.length),(6,rW false a0 e56),(7,iW (a0.length : Int)),(8,iW x_9.1)],[(1,⟨57,true,x_9.2.flatMap e56⟩)]⟩) (x := ((0 : Int),([] : List R56))) (fun nx_10 x_9 h => ?_) h
  unfold m32_L1 at h
  refine AWP.sv (.cons (.lss (lt1 rfl) (.t rfl) (.t rfl))<| .nil _ _ _) ⟨[(3,.own 1 2 0 x_9.2.length),(6,rW false a0 e56),(7,iW (a0.length : Int)),(8,iW x_9.1),(9,bW (decide (x_9.1 < (a0.length : Int))))],[(1,⟨57,true,x_9.2.flatMap e56⟩)]⟩ rfl rfl ?_
  refine AWP.seq ?_
  refine AWP.cond (.t rfl) (fun hc => ?_) (fun hc => ?_)
  ·have h := iteT hc h
   refine AWP.skip ?_
   refine AWP.seq ?_
   refine AWP.block ?_
   obtain ⟨y_11,hy_11,h⟩ := bindS h
   refine AWP.sv (.cons (.indexRd (enc := e56) (lt1 rfl) (.t rfl) (.t rfl) Try.underlying49 sz78 encR56_len rfl hy_11)<| .cons (.loadRA (out := [rW false y_11.Pq eW,iW y_11.Cq]) (lt1 rfl) (.t rfl) agg78 (Nat.le_of_eq (Eq.symm (encR56_len _))) rfl)<| .cons (.alloc (t := 2) (k := ⟨78,false,[.sc (.slice none 0 0),iW (0 : Int)]⟩) (lt1 rfl) (nm rfl) zero78 rfl rfl)<| .cons (.storePA (.t rfl) (.t rfl) sz78 rfl rfl (le1 rfl) (one_lit rfl) (by intro h; cases h) rfl)<| .nil _ _ _) ⟨[(3,.own 1 2 0 x_9.2.length),(6,rW false a0 e56),(7,iW (a0.length : Int)),(8,iW x_9.1),(5,.ptr 2 0)],[(2,⟨78,false,[rW false y_11.Pq eW,iW y_11.Cq]⟩),(1,⟨57,true,x_9.2.flatMap e56⟩)]⟩ rfl rfl ?_
   obtain ⟨l1_12,hl1_12,h⟩ := bindS h
   refine AWP.rg (.cons (.move (lt1 rfl) (.t rfl))<| .cons (.loadPA (lt1 rfl) (.t rfl) agg78 rfl rfl rfl rfl)<| .cons (.buildSlice (t := 3) (out := ([(R56.mk y_11.Pq y_11.Cq)] : List R56).flatMap e56) (lt1 rfl) (nm rfl) (.cons (.t rfl) (by first | exact ⟨rfl,rfl⟩ | rfl) (.nil)) Try.underlying53 zero57 el57 (by decide) (by decide) rfl (still_all encR56_still _))<| .cons (.app (enc := e56) (lt1 rfl) (nm rfl) (.t rfl) (Src.own (.t rfl) rfl (lendAll encR56_len _) (flatMap_length encR56_len _) (one_all encR56_one _) (.inl rfl)) Try.underlying53 ⟨_,Try.underlying53,by intro k hk; cases hk⟩ el57 rfl encR56_len rfl rfl (by decide) hl1_12)<| .cons (.assign (lt1 rfl) (.t rfl))<| .nil _ _ _) ?_
   refine AWP.vs ⟨[(3,.own 1 2 0 l1_12.length),(6,rW false a0 e56),(7,iW (a0.length : Int)),(8,iW x_9.1)],[(1,⟨57,true,l1_12.flatMap e56⟩)]⟩ rfl rfl ?_
   obtain ⟨t8_13,ht8_13,h⟩ := letS h
   refine AWP.rg (.cons (.add (lt1 rfl) (.t rfl) (.const _ _ _))<| .cons (.move (lt1 rfl) (.t rfl))<| .nil _ _ _) ?_
   exact endJ (t8_13,l1_12) h (by subst ht8_13; exact VC.sub (.of rfl) (.of rfl))
  ·have h := iteF hc h
   refine AWP.exit ?_
   exact endJ x_9.2 h (VC.sub (.of rfl) (.of rfl))
theorem c52 {β1 : Bool} {β2 : Bool} (n : Nat) (a0 : (List Int)) (a1 : (List Int)) {r : Bool} (h : m52 n a0 a1 = some r) : Spec Try.prog 52 [] [rW β1 a0 eW,rW β2 a1 eW] [] (bW r) [] := by
 refine Spec.of (fn := Try.f52) Try.func52 Try.ntmps52 rfl rfl (le1 rfl) (fun w0 Zs Zb T0 ι0 => ?_)
 unfold m52 at h
 refine AWP.sv (.cons (.assign (lt1 rfl) (.const _ _ _))<| .nil _ _ _) ⟨[(0,rW β1 a0 eW),(1,rW β2 a1 eW)],[]⟩ rfl rfl ?_
 refine AWP.seq ?_
 refine AWP.sv (.cons (.move (lt1 rfl) (.t rfl))<| .cons (.lenRd (lt1 rfl) (.t rfl) Try.underlying22)<| .cons (.move (lt1 rfl) (.t rfl))<| .cons (.lenRd (lt1 rfl) (.t rfl) Try.underlying22)<| .cons (.neq (lt1 rfl) (.t rfl) (.t rfl))<| .nil _ _ _) ⟨[(0,rW β1 a0 eW),(1,rW β2 a1 eW),(10,bW (!decide ((a0.length : Int) = (a1.length : Int))))],[]⟩ rfl rfl ?_
 refine AWP.cond (.t rfl) (fun hc => ?_) (fun hc => ?_)
 ·have h := iteT hc h
  refine AWP.sr (.cons (.assign (lt1 rfl) (.const _ _ _))<| .nil _ _ _) ?_
  refine AWP.ret ?_
  obtain rfl := Option.some.inj h
  refine retJ (Res.vc (s' := ⟨[(4,bW false)],[]⟩) (VC.sub (.of rfl) (.n _)) ?_)
  refine Res.drop (H := []) rfl ?_
  exact Res.of rfl (.cons (.tmp rfl) (.nil)) rfl rfl
 ·have h := iteF hc h
  refine AWP.skip ?_
  refine AWP.seq ?_
  refine AWP.sv (.cons (.move (lt1 rfl) (.t rfl))<| .cons (.lenRd (lt1 rfl) (.t rfl) Try.underlying22)<| .cons (.move (lt1 rfl) (.const _ _ _))<| .nil _ _ _) ⟨[(0,rW β1 a0 eW),(1,rW β2 a1 eW),(12,iW (a0.length : Int)),(13,iW (0 : Int))],[]⟩ rfl rfl ?_
  refine AWP.joinB' (S := fun p_10 : Unit => ⟨[],[]⟩) h (fun p_10 h => ?_) (fun k_11 h => ?_)
  ·refine AWP.sr (.cons (.assign (lt1 rfl) (.const _ _ _))<| .nil _ _ _) ?_
   refine AWP.ret ?_
   obtain rfl := Option.some.inj h
   refine retJ (Res.vc (s' := ⟨[(4,bW true)],[]⟩) (VC.sub (.of rfl) (.n _)) ?_)
   refine Res.drop (H := []) rfl ?_
   exact Res.of rfl (.cons (.tmp rfl) (.nil)) rfl rfl
  ·refine AWP.vs ⟨[(0,rW β1 a0 eW),(1,rW β2 a1 eW),(12,iW (a0.length : Int)),(13,iW (0 : Int))],[]⟩ rfl rfl ?_
   refine AWP.loopM (S := fun x_5 : Int => ⟨[(0,rW β1 a0 eW),(1,rW β2 a1 eW),(12,iW (a0.length : Int)),(13,iW x_5)],[]⟩) (x := (0 : Int)) (fun nx_6 x_5 h => ?_) h
   unfold m52_L1 at h
   refine AWP.sv (.cons (.lss (lt1 rfl) (.t rfl) (.t rfl))<| .nil _ _ _) ⟨[(0,rW β1 a0 eW),(1,rW β2 a1 eW),(12,iW (a0.length : Int)),(13,iW x_5),(14,bW (decide (x_5 < (a0.length : Int))))],[]⟩ rfl rfl ?_
   refine AWP.seq ?_
   refine AWP.cond (.t rfl) (fun hc => ?_) (fun hc => ?_)
   ·have h := iteT hc h
    refine AWP.skip ?_
    refine AWP.seq ?_
    refine AWP.block ?_
    refine AWP.sv (.cons (.move (lt1 rfl) (.t rfl))<| .cons (.assign (lt1 rfl) (.t rfl))<| .nil _ _ _) ⟨[(0,rW β1 a0 eW),(1,rW β2 a1 eW),(12,iW (a0.length : Int)),(13,iW x_5),(5,iW x_5)],[]⟩ rfl rfl ?_
    refine AWP.seq ?_
    obtain ⟨y_7,hy_7,h⟩ := bindS h
    obtain ⟨y_8,hy_8,h⟩ := bindS h
    refine AWP.dw mixed [(0,rW β1 a0 eW),(1,rW β2 a1 eW),(5,iW x_5),(12,iW (a0.length : Int)),(13,iW x_5)] [] [dO [0] 16 (rW β1 a0 eW),dO [2] 17 (iW x_5),dO [5,6] 18 (.rptr β1 [iW y_7]),dO [7] 19 (iW y_7),dO [1] 20 (rW β2 a1 eW),dO [2] 21 (iW x_5),dO [9,10] 22 (.rptr β2 [iW y_8]),dO [11] 23 (iW y_8),dO [8,12] 24 (bW (!decide (y_7 = y_8)))] [] [[]] [[],[],[0,2],[0,3],[],[],[4,6],[4,7],[0,8]] [0,1,3,4,13] rfl rfl (by kernel_rfl) rfl (.p rfl (fun _ q _ => .move (lt1 rfl) (q.t 0 rfl))<| .p rfl (fun _ q _ => .move (lt1 rfl) (q.t 0 rfl))<| .p rfl (fun _ q _ => .indexRd (enc := eW) (lt1 rfl) (q.t 0 rfl) (q.t 1 rfl) Try.underlying22 sz3 (encI_len .i64) rfl hy_7)<| .p rfl (fun _ q _ => .loadR (v := iW y_7) (lt1 rfl) (q.t 0 rfl) one3 rfl)<| .p rfl (fun _ q _ => .move (lt1 rfl) (q.t 0 rfl))<| .p rfl (fun _ q _ => .move (lt1 rfl) (q.t 0 rfl))<| .p rfl (fun _ q _ => .indexRd (enc := eW) (lt1 rfl) (q.t 0 rfl) (q.t 1 rfl) Try.underlying22 sz3 (encI_len .i64) rfl hy_8)<| .p rfl (fun _ q _ => .loadR (v := iW y_8) (lt1 rfl) (q.t 0 rfl) one3 rfl)<| .p rfl (fun _ q _ => .neq (lt1 rfl) (q.t 0 rfl) (q.t 1 rfl))<| .nil _) rfl rfl ?_
    refine AWP.vs ⟨[(0,rW β1 a0 eW),(1,rW β2 a1 eW),(12,iW (a0.length : Int)),(13,iW x_5),(24,bW (!decide (y_7 = y_8)))],[]⟩ rfl rfl ?_
    refine AWP.cond (.t rfl) (fun hc => ?_) (fun hc => ?_)
    ·have h := iteT hc h
     refine AWP.sr (.cons (.assign (lt1 rfl) (.const _ _ _))<| .nil _ _ _) ?_
     refine AWP.ret ?_
     obtain rfl := Option.some.inj h
     refine retJ (Res.vc (s' := ⟨[(4,bW false)],[]⟩) (VC.sub (.of rfl) (.n _)) ?_)
     refine Res.drop (H := []) rfl ?_
     exact Res.of rfl (.cons (.tmp rfl) (.nil)) rfl rfl
    ·have h := iteF hc h
     refine AWP.skip ?_
     obtain ⟨t13_9,ht13_9,h⟩ := letS h
     refine AWP.rg (.cons (.add (lt1 rfl) (.t rfl) (.const _ _ _))<| .cons (.move (lt1 rfl) (.t rfl))<| .nil _ _ _) ?_
     exact endJ t13_9 h (by subst ht13_9; exact VC.sub (.of rfl) (.n _))
   ·have h := iteF hc h
    refine AWP.exit ?_
    exact endJ () h (VC.sub (.n _) (.n _))
theorem c51 {β1 : Bool} {β2 : Bool} (n : Nat) (a0 : R56) (a1_b0 : (List Int)) (a1_b1 : Int) {r : Bool} (h : m51 n a0 a1_b0 a1_b1 = some r) : Spec Try.prog 51 [1] [.agg [rW β1 a0.Pq eW,iW a0.Cq],.ptr 1 0] [(1,⟨57,false,[rW β2 a1_b0 eW,iW a1_b1]⟩)] (bW r) [(1,⟨57,false,[rW β2 a1_b0 eW,iW a1_b1]⟩)] := by
 refine Spec.of (fn := Try.f51) Try.func51 Try.ntmps51 rfl rfl (le1 rfl) (fun w0 Zs Zb T0 ι0 => ?_)
 unfold m51 at h
 refine AWP.sv (.cons (.box (t := 2) (n := 2) (lt1 rfl) (nm rfl) (.t rfl) (by first | exact ⟨rfl,rfl⟩ | rfl) rfl)<| .cons (.assign (lt1 rfl) (.const _ _ _))<| .nil _ _ _) ⟨[(1,.ptr 1 0),(2,.ptr 2 0)],[(2,⟨57,false,[rW β1 a0.Pq eW,iW a0.Cq]⟩),(1,⟨57,false,[rW β2 a1_b0 eW,iW a1_b1]⟩)]⟩ rfl rfl ?_
 obtain ⟨y_1,hy_1,h⟩ := bindS h
 refine AWP.sr (.cons (.fieldP (lt1 rfl) (.t rfl) fld57_0)<| .cons (.loadP (lt1 rfl) (.t rfl) one22 rfl rfl rfl)<| .cons (.fieldP (lt1 rfl) (.t rfl) fld57_0)<| .cons (.loadP (lt1 rfl) (.t rfl) one22 rfl rfl rfl)<| .cons (.call0 (bw := false) (lt1 rfl) (c52 (β1 := β2) (β2 := β1) n a1_b0 a0.Pq hy_1) (.cons (.t rfl) (.ren rfl) (.cons (.t rfl) (.ren rfl) (.nil))) rfl)<| .cons (.assign (lt1 rfl) (.t rfl))<| .nil _ _ _) ?_
 refine AWP.ret ?_
 obtain rfl := Option.some.inj h
 refine retJ (Res.vc (s' := ⟨[(3,bW y_1)],[(1,⟨57,false,[rW β2 a1_b0 eW,iW a1_b1]⟩)]⟩) (VC.sub (.of rfl) (.of rfl)) ?_)
 refine Res.sub (H := [(1,⟨57,false,[rW β2 a1_b0 eW,iW a1_b1]⟩)]) (.of rfl) ?_
 exact Res.of rfl (.cons (.tmp rfl) (.nil)) rfl rfl
theorem c50 {β1 : Bool} {β2 : Bool} (n : Nat) (a0 : (List R56)) (a1_0_b0 : (List Int)) (a1_0_b1 : Int) {r : Int} (h : m50 n a0 a1_0_b0 a1_0_b1 = some r) : Spec Try.prog 50 [1] [rW β1 a0 e56,.clo (.func 51) [] [.ptr 1 0]] [(1,⟨57,false,[rW β2 a1_0_b0 eW,iW a1_0_b1]⟩)] (iW r) [(1,⟨57,false,[rW β2 a1_0_b0 eW,iW a1_0_b1]⟩)] := by
 refine Spec.of (fn := Try.f50) Try.func50 Try.ntmps50 rfl rfl (le1 rfl) (fun w0 Zs Zb T0 ι0 => ?_)
 unfold m50 at h
 refine AWP.sv (.cons (.assign (lt1 rfl) (.const _ _ _))<| .nil _ _ _) ⟨[(0,rW β1 a0 e56),(1,.clo (.func 51) [] [.ptr 1 0])],[(1,⟨57,false,[rW β2 a1_0_b0 eW,iW a1_0_b1]⟩)]⟩ rfl rfl ?_
 refine AWP.seq ?_
 refine AWP.sv (.cons (.move (lt1 rfl) (.t rfl))<| .cons (.lenRd (lt1 rfl) (.t rfl) Try.underlying53)<| .cons (.move (lt1 rfl) (.const _ _ _))<| .nil _ _ _) ⟨[(0,rW β1 a0 e56),(1,.clo (.func 51) [] [.ptr 1 0]),(7,iW (a0.length : Int)),(8,iW (0 : Int))],[(1,⟨57,false,[rW β2 a1_0_b0 eW,iW a1_0_b1]⟩)]⟩ rfl rfl ?_
 refine AWP.joinB' (S := fun p_10 : Unit => ⟨[],[(1,⟨57,false,[rW β2 a1_0_b0 eW,iW a1_0_b1]⟩)]⟩) h (fun p_10 h => ?_) (fun k_11 h => ?_)
 ·refine AWP.sr (.cons (.assign (lt1 rfl) (.const _ _ _))<| .nil _ _ _) ?_
  refine AWP.ret ?_
  obtain rfl := Option.some.inj h
  refine retJ (Res.vc (s' := ⟨[(4,iW (-1 : Int))],[(1,⟨57,false,[rW β2 a1_0_b0 eW,iW a1_0_b1]⟩)]⟩) (VC.sub (.of rfl) (.of rfl)) ?_)
  refine Res.sub (H := [(1,⟨57,false,[rW β2 a1_0_b0 eW,iW a1_0_b1]⟩)]) (.of rfl) ?_
  exact Res.of rfl (.cons (.tmp rfl) (.nil)) rfl rfl
 ·refine AWP.vs ⟨[(0,rW β1 a0 e56),(1,.clo (.func 51) [] [.ptr 1 0]),(7,iW (a0.length : Int)),(8,iW (0 : Int))],[(1,⟨57,false,[rW β2 a1_0_b0 eW,iW a1_0_b1]⟩)]⟩ rfl rfl ?_
  refine AWP.loopM (S := fun x_5 : Int => ⟨[(0,rW β1 a0 e56),(1,.clo (.func 51) [] [.ptr 1 0]),(7,iW (a0.length : Int)),(8,iW x_5)],[(1,⟨57,false,[rW β2 a1_0_b0 eW,iW a1_0_b1]⟩)]⟩) (x := (0 : Int)) (fun nx_6 x_5 h => ?_) h
  unfold m50_L1 at h
  refine AWP.sv (.cons (.lss (lt1 rfl) (.t rfl) (.t rfl))<| .nil _ _ _) ⟨[(0,rW β1 a0 e56),(1,.clo (.func 51) [] [.ptr 1 0]),(7,iW (a0.length : Int)),(8,iW x_5),(9,bW (decide (x_5 < (a0.length : Int))))],[(1,⟨57,false,[rW β2 a1_0_b0 eW,iW a1_0_b1]⟩)]⟩ rfl rfl ?_
  refine AWP.seq ?_
  refine AWP.cond (.t rfl) (fun hc => ?_) (fun hc => ?_)
  ·have h := iteT hc h
   refine AWP.skip ?_
   refine AWP.seq ?_
   refine AWP.block ?_
   refine AWP.sv (.cons (.move (lt1 rfl) (.t rfl))<| .cons (.assign (lt1 rfl) (.t rfl))<| .nil _ _ _) ⟨[(0,rW β1 a0 e56),(1,.clo (.func 51) [] [.ptr 1 0]),(7,iW (a0.length : Int)),(8,iW x_5),(5,iW x_5)],[(1,⟨57,false,[rW β2 a1_0_b0 eW,iW a1_0_b1]⟩)]⟩ rfl rfl ?_
   obtain ⟨y_7,hy_7,h⟩ := bindS h
   obtain ⟨y_8,hy_8,h⟩ := bindS h
   refine AWP.sv (.cons (.move (lt1 rfl) (.t rfl))<| .cons (.move (lt1 rfl) (.t rfl))<| .cons (.move (lt1 rfl) (.t rfl))<| .cons (.indexRd (enc := e56) (lt1 rfl) (.t rfl) (.t rfl) Try.underlying53 sz57 encR56_len rfl hy_7)<| .cons (.loadRA (out := [rW β1 y_7.Pq eW,iW y_7.Cq]) (lt1 rfl) (.t rfl) agg57 (Nat.le_of_eq (Eq.symm (encR56_len _))) rfl)<| .cons (.keep (bw := false) (AStep.callV (us' := []) (avs := [.agg [rW β1 ((R56.mk y_7.Pq y_7.Cq).Pq) eW,iW ((R56.mk y_7.Pq y_7.Cq).Cq)]]) (cs' := [.ptr 1 0]) (σ := fun _ => 1) (bw := false) (lt1 rfl) (.t rfl) (c51 (β1 := β1) (β2 := β2) n (R56.mk y_7.Pq y_7.Cq) a1_0_b0 a1_0_b1 hy_8) (.nil) (.cons (.t rfl) (.ren rfl) (.nil)) (.cons (.ren rfl) (.nil)) (CallOk.mk' (.c rfl (.n)) rfl) (fun _ h => by cases h)) (CallOk.mk' (.c rfl (.n)) rfl) rfl rfl)<| .nil _ _ _) ⟨[(0,rW β1 a0 e56),(1,.clo (.func 51) [] [.ptr 1 0]),(7,iW (a0.length : Int)),(8,iW x_5),(5,iW x_5),(16,bW y_8)],[(1,⟨57,false,[rW β2 a1_0_b0 eW,iW a1_0_b1]⟩)]⟩ rfl rfl ?_
   refine AWP.cond (.t rfl) (fun hc => ?_) (fun hc => ?_)
   ·have h := iteT hc h
    refine AWP.sr (.cons (.move (lt1 rfl) (.t rfl))<| .cons (.assign (lt1 rfl) (.t rfl))<| .nil _ _ _) ?_
    refine AWP.ret ?_
    obtain rfl := Option.some.inj h
    refine retJ (Res.vc (s' := ⟨[(4,iW x_5)],[(1,⟨57,false,[rW β2 a1_0_b0 eW,iW a1_0_b1]⟩)]⟩) (VC.sub (.of rfl) (.of rfl)) ?_)
    refine Res.sub (H := [(1,⟨57,false,[rW β2 a1_0_b0 eW,iW a1_0_b1]⟩)]) (.of rfl) ?_
    exact Res.of rfl (.cons (.tmp rfl) (.nil)) rfl rfl
   ·have h := iteF hc h
    refine AWP.skip ?_
    obtain ⟨t8_9,ht8_9,h⟩ := letS h
    refine AWP.rg (.cons (.add (lt1 rfl) (.t rfl) (.const _ _ _))<| .cons (.move (lt1 rfl) (.t rfl))<| .nil _ _ _) ?_
    exact endJ t8_9 h (by subst ht8_9; exact VC.sub (.of rfl) (.of rfl))
  ·have h := iteF hc h
   refine AWP.exit ?_
   exact endJ () h (VC.sub (.n _) (.of rfl))
theorem c55 {β1 : Bool} (n : Nat) (a0 : R56) {r : Bool} (h : m55 n a0 = some r) : Spec Try.prog 55 [] [.agg [rW β1 a0.Pq eW,iW a0.Cq]] [] (bW r) [] := by
 refine Spec.of (fn := Try.f55) Try.func55 Try.ntmps55 rfl rfl (le1 rfl) (fun w0 Zs Zb T0 ι0 => ?_)
 unfold m55 at h
 refine AWP.sv (.cons (.box (t := 1) (n := 2) (lt1 rfl) (nm rfl) (.t rfl) (by first | exact ⟨rfl,rfl⟩ | rfl) rfl)<| .cons (.assign (lt1 rfl) (.const _ _ _))<| .nil _ _ _) ⟨[(1,.ptr 1 0)],[(1,⟨57,false,[rW β1 a0.Pq eW,iW a0.Cq]⟩)]⟩ rfl rfl ?_
 refine AWP.sr (.cons (.fieldP (lt1 rfl) (.t rfl) fld57_1)<| .cons (.loadP (lt1 rfl) (.t rfl) one3 rfl rfl rfl)<| .cons (.lss (lt1 rfl) (.t rfl) (.const _ _ _))<| .cons (.assign (lt1 rfl) (.t rfl))<| .nil _ _ _) ?_
 refine AWP.ret ?_
 obtain rfl := Option.some.inj h
 refine retJ (Res.vc (s' := ⟨[(2,bW (decide (a0.Cq < (1 : Int))))],[]⟩) (VC.sub (.of rfl) (.n _)) ?_)
 refine Res.drop (H := []) rfl ?_
 exact Res.of rfl (.cons (.tmp rfl) (.nil)) rfl rfl
theorem c50x1 {β1 : Bool} (n : Nat) (a0 : (List R56)) {r : Int} (h : m50x1 n a0 = some r) : Spec Try.prog 50 [] [rW β1 a0 e56,.clo (.func 55) [] []] [] (iW r) [] := by
 refine Spec.of (fn := Try.f50) Try.func50 Try.ntmps50 rfl rfl (le1 rfl) (fun w0 Zs Zb T0 ι0 => ?_)
 unfold m50x1 at h
 refine AWP.sv (.cons (.assign (lt1 rfl) (.const _ _ _))<| .nil _ _ _) ⟨[(0,rW β1 a0 e56),(1,.clo (.func 55) [] [])],[]⟩ rfl rfl ?_
 refine AWP.seq ?_
 refine AWP.sv (.cons (.move (lt1 rfl) (.t rfl))<| .cons (.lenRd (lt1 rfl) (.t rfl) Try.underlying53)<| .cons (.move (lt1 rfl) (.const _ _ _))<| .nil _ _ _) ⟨[(0,rW β1 a0 e56),(1,.clo (.func 55) [] []),(7,iW (a0.length : Int)),(8,iW (0 : Int))],[]⟩ rfl rfl ?_
 refine AWP.joinB' (S := fun p_10 : Unit => ⟨[],[]⟩) h (fun p_10 h => ?_) (fun k_11 h => ?_)
 ·refine AWP.sr (.cons (.assign (lt1 rfl) (.const _ _ _))<| .nil _ _ _) ?_
  refine AWP.ret ?_
  obtain rfl := Option.some.inj h
  refine retJ (Res.vc (s' := ⟨[(4,iW (-1 : Int))],[]⟩) (VC.sub (.of rfl) (.n _)) ?_)
  refine Res.drop (H := []) rfl ?_
  exact Res.of rfl (.cons (.tmp rfl) (.nil)) rfl rfl
 ·refine AWP.vs ⟨[(0,rW β1 a0 e56),(1,.clo (.func 55) [] []),(7,iW (a0.length : Int)),(8,iW (0 : Int))],[]⟩ rfl rfl ?_
  refine AWP.loopM (S := fun x_5 : Int => ⟨[(0,rW β1 a0 e56),(1,.clo (.func 55) [] []),(7,iW (a0.length : Int)),(8,iW x_5)],[]⟩) (x := (0 : Int)) (fun nx_6 x_5 h => ?_) h
  unfold m50x1_L1 at h
  refine AWP.sv (.cons (.lss (lt1 rfl) (.t rfl) (.t rfl))<| .nil _ _ _) ⟨[(0,rW β1 a0 e56),(1,.clo (.func 55) [] []),(7,iW (a0.length : Int)),(8,iW x_5),(9,bW (decide (x_5 < (a0.length : Int))))],[]⟩ rfl rfl ?_
  refine AWP.seq ?_
  refine AWP.cond (.t rfl) (fun hc => ?_) (fun hc => ?_)
  ·have h := iteT hc h
   refine AWP.skip ?_
   refine AWP.seq ?_
   refine AWP.block ?_
   refine AWP.sv (.cons (.move (lt1 rfl) (.t rfl))<| .cons (.assign (lt1 rfl) (.t rfl))<| .nil _ _ _) ⟨[(0,rW β1 a0 e56),(1,.clo (.func 55) [] []),(7,iW (a0.length : Int)),(8,iW x_5),(5,iW x_5)],[]⟩ rfl rfl ?_
   obtain ⟨y_7,hy_7,h⟩ := bindS h
   obtain ⟨y_8,hy_8,h⟩ := bindS h
   refine AWP.sv (.cons (.move (lt1 rfl) (.t rfl))<| .cons (.move (lt1 rfl) (.t rfl))<| .cons (.move (lt1 rfl) (.t rfl))<| .cons (.indexRd (enc := e56) (lt1 rfl) (.t rfl) (.t rfl) Try.underlying53 sz57 encR56_len rfl hy_7)<| .cons (.loadRA (out := [rW β1 y_7.Pq eW,iW y_7.Cq]) (lt1 rfl) (.t rfl) agg57 (Nat.le_of_eq (Eq.symm (encR56_len _))) rfl)<| .cons (.keep (bw := false) (AStep.callV (us' := []) (avs := [.agg [rW β1 ((R56.mk y_7.Pq y_7.Cq).Pq) eW,iW ((R56.mk y_7.Pq y_7.Cq).Cq)]]) (cs' := []) (σ := sgT []) (bw := false) (lt1 rfl) (.t rfl) (c55 (β1 := β1) n (R56.mk y_7.Pq y_7.Cq) hy_8) (.nil) (.cons (.t rfl) (.ren rfl) (.nil)) (.nil) (CallOk.mk' (.n) rfl) (fun _ h => by cases h)) (CallOk.mk' (.n) rfl) rfl rfl)<| .nil _ _ _) ⟨[(0,rW β1 a0 e56),(1,.clo (.func 55) [] []),(7,iW (a0.length : Int)),(8,iW x_5),(5,iW x_5),(16,bW y_8)],[]⟩ rfl rfl ?_
   refine AWP.cond (.t rfl) (fun hc => ?_) (fun hc => ?_)
   ·have h := iteT hc h
    refine AWP.sr (.cons (.move (lt1 rfl) (.t rfl))<| .cons (.assign (lt1 rfl) (.t rfl))<| .nil _ _ _) ?_
    refine AWP.ret ?_
    obtain rfl := Option.some.inj h
    refine retJ (Res.vc (s' := ⟨[(4,iW x_5)],[]⟩) (VC.sub (.of rfl) (.n _)) ?_)
    refine Res.drop (H := []) rfl ?_
    exact Res.of rfl (.cons (.tmp rfl) (.nil)) rfl rfl
   ·have h := iteF hc h
    refine AWP.skip ?_
    obtain ⟨t8_9,ht8_9,h⟩ := letS h
    refine AWP.rg (.cons (.add (lt1 rfl) (.t rfl) (.const _ _ _))<| .cons (.move (lt1 rfl) (.t rfl))<| .nil _ _ _) ?_
    exact endJ t8_9 h (by subst ht8_9; exact VC.sub (.of rfl) (.n _))
  ·have h := iteF hc h
   refine AWP.exit ?_
   exact endJ () h (VC.sub (.n _) (.n _))
theorem c54o (n : Nat) (a0_b : (List R56)) {r : (List R56)} (h : m54o n a0_b = some r) : Spec Try.prog 54 [1] [.own 1 2 0 a0_b.length,.clo (.func 55) [] []] [(1,⟨57,true,a0_b.flatMap e56⟩)] (.own 1 2 0 r.length) [(1,⟨57,true,r.flatMap e56⟩)] := by
 refine Spec.of (fn := Try.f54) Try.func54 Try.ntmps54 rfl rfl (le1 rfl) (fun w0 Zs Zb T0 ι0 => ?_)
 unfold m54o at h
 refine AWP.sv (.cons (.assign (lt1 rfl) (.const _ _ _))<| .nil _ _ _) ⟨[(0,.own 1 2 0 a0_b.length),(1,.clo (.func 55) [] [])],[(1,⟨57,true,a0_b.flatMap e56⟩)]⟩ rfl rfl ?_
 obtain ⟨y_1,hy_1,h⟩ := bindS h
 refine AWP.sv (.cons (.move (lt1 rfl) (.t rfl))<| .cons (.move (lt1 rfl) (.t rfl))<| .cons (.call0 (bw := true) (lt1 rfl) (c50x1 (β1 := true) n a0_b hy_1) (.cons (.t rfl) (.lendRow rfl rfl encR56_len rfl) (.cons (.t rfl) (.ren rfl) (.nil))) rfl)<| .cons (.assign (lt1 rfl) (.t rfl))<| .nil _ _ _) ⟨[(0,.own 1 2 0 a0_b.length),(1,.clo (.func 55) [] []),(5,iW y_1)],[(1,⟨57,true,a0_b.flatMap e56⟩)]⟩ rfl rfl ?_
 refine AWP.seq ?_
 refine AWP.sv (.cons (.move (lt1 rfl) (.t rfl))<| .cons (.eql (lt1 rfl) (.t rfl) (.const _ _ _))<| .nil _ _ _) ⟨[(0,.own 1 2 0 a0_b.length),(1,.clo (.func 55) [] []),(5,iW y_1),(12,bW (decide (y_1 = (-1 : Int))))],[(1,⟨57,true,a0_b.flatMap e56⟩)]⟩ rfl rfl ?_
 refine AWP.cond (.t rfl) (fun hc => ?_) (fun hc => ?_)
 ·have h := iteT hc h
  refine AWP.sr (.cons (.move (lt1 rfl) (.t rfl))<| .cons (.assign (lt1 rfl) (.t rfl))<| .nil _ _ _) ?_
  refine AWP.ret ?_
  obtain rfl := Option.some.inj h
  refine retJ (Res.vc (s' := ⟨[(4,.own 1 2 0 a0_b.length)],[(1,⟨57,true,a0_b.flatMap e56⟩)]⟩) (VC.sub (.of rfl) (.of rfl)) ?_)
  refine Res.sub (H := [(1,⟨57,true,a0_b.flatMap e56⟩)]) (.of rfl) ?_
  exact Res.of rfl (.cons (.tmp rfl) (.nil)) rfl rfl
 ·have h := iteF hc h
  refine AWP.skip ?_
  refine AWP.seq ?_
  obtain ⟨t6_2,ht6_2,h⟩ := letS h
  refine AWP.sr (.cons (.move (lt1 rfl) (.t rfl))<| .cons (.add (lt1 rfl) (.t rfl) (.const _ _ _))<| .cons (.assign (lt1 rfl) (.t rfl))<| .nil _ _ _) ?_
  refine AWP.vc (s' := ⟨[(0,.own 1 2 0 a0_b.length),(1,.clo (.func 55) [] []),(5,iW y_1),(6,iW t6_2)],[(1,⟨57,true,a0_b.flatMap e56⟩)]⟩) (by subst ht6_2; exact VC.sub (.of rfl) (.of rfl)) ?_
  refine AWP.joinB' (S := fun p_31 : Int × (List R56) => ⟨[(0,.own 1 2 0 p_31.2.length),(5,iW p_31.1)],[(1,⟨57,true,p_31.2.flatMap e56⟩)]⟩) h (fun p_31 h => ?_) (fun k_32 h => ?_)
  ·obtain ⟨l1_33,hl1_33,h⟩ := bindS h
   refine AWP.sv (.cons (.move (lt1 rfl) (.t rfl))<| .cons (.move (lt1 rfl) (.t rfl))<| .cons (.slPart (lt1 rfl) (.t rfl) Try.underlying53 sz57 rfl (.some (.t rfl)) hl1_33)<| .cons (.clearTail (.t rfl) Try.underlying53 zero57 (by decide) rfl rfl (takeF encR56_len hl1_33))<| .nil _ _ _) ⟨[(0,.own 1 2 0 p_31.2.length),(5,iW p_31.1)],[(1,⟨57,true,l1_33.flatMap e56⟩)]⟩ rfl rfl ?_
   refine AWP.sr (.cons (.move (lt1 rfl) (.t rfl))<| .cons (.move (lt1 rfl) (.t rfl))<| .cons (.slHead (lt1 rfl) (.t rfl) Try.underlying53 sz57 rfl (.some (.t rfl)) hl1_33)<| .cons (.assign (lt1 rfl) (.t rfl))<| .nil _ _ _) ?_
   refine AWP.ret ?_
   obtain rfl := Option.some.inj h
   refine retJ (Res.vc (s' := ⟨[(4,.own 1 2 0 l1_33.length)],[(1,⟨57,true,l1_33.flatMap e56⟩)]⟩) (VC.sub (.of rfl) (.of rfl)) ?_)
   refine Res.sub (H := [(1,⟨57,true,l1_33.flatMap e56⟩)]) (.of rfl) ?_
   exact Res.of rfl (.cons (.tmp rfl) (.nil)) rfl rfl
  ·refine AWP.vs ⟨[(0,.own 1 2 0 a0_b.length),(1,.clo (.func 55) [] []),(5,iW y_1),(6,iW t6_2)],[(1,⟨57,true,a0_b.flatMap e56⟩)]⟩ rfl rfl ?_
   refine AWP.loopM (S := fun x_21 : Int × Int × (List R56) => ⟨[(0,.own 1 2 0 x_21.2.2.length),(1,.clo (.func 55) [] []),(5,iW x_21.1),(6,iW x_21.2.1)],[(1,⟨57,true,x_21.2.2.flatMap e56⟩)]⟩) (x := (y_1,t6_2,a0_b)) (fun nx_22 x_21 h => ?_) h
   unfold m54o_L1 at h
   refine AWP.seq ?_
   refine AWP.sv (.cons (.move (lt1 rfl) (.t rfl))<| .cons (.move (lt1 rfl) (.t rfl))<| .cons (.lenOwn (lt1 rfl) (.t rfl) Try.underlying53)<| .cons (.lss (lt1 rfl) (.t rfl) (.t rfl))<| .nil _ _ _) ⟨[(0,.own 1 2 0 x_21.2.2.length),(1,.clo (.func 55) [] []),(5,iW x_21.1),(6,iW x_21.2.1),(19,bW (decide (x_21.2.1 < (x_21.2.2.length : Int))))],[(1,⟨57,true,x_21.2.2.flatMap e56⟩)]⟩ rfl rfl ?_
   refine AWP.cond (.t rfl) (fun hc => ?_) (fun hc => ?_)
   ·have h := iteT hc h
    refine AWP.skip ?_
    refine AWP.seq ?_
    refine AWP.block ?_
    obtain ⟨y_23,hy_23,h⟩ := bindS h
    refine AWP.sv (.cons (.move (lt1 rfl) (.t rfl))<| .cons (.move (lt1 rfl) (.t rfl))<| .cons (.idxOwn (lt1 rfl) (.t rfl) (.t rfl) Try.underlying53 sz57 rfl hy_23)<| .cons (.loadPA (lt1 rfl) (.t rfl) agg57 rfl (cells_at encR56_len hy_23) rfl rfl)<| .cons (.alloc (t := 2) (k := ⟨57,false,[.sc (.slice none 0 0),iW (0 : Int)]⟩) (lt1 rfl) (nm rfl) zero57 rfl rfl)<| .cons (.storePA (.t rfl) (.t rfl) sz57 rfl rfl (le1 rfl) (one_lit rfl) (by intro h; cases h) rfl)<| .nil _ _ _) ⟨[(0,.own 1 2 0 x_21.2.2.length),(1,.clo (.func 55) [] []),(5,iW x_21.1),(6,iW x_21.2.1),(7,.ptr 2 0)],[(2,⟨57,false,[rW false y_23.Pq eW,iW y_23.Cq]⟩),(1,⟨57,true,x_21.2.2.flatMap e56⟩)]⟩ rfl rfl ?_
    obtain ⟨y_24,hy_24,h⟩ := bindS h
    refine AWP.sv (.cons (.move (lt1 rfl) (.t rfl))<| .cons (.loadPA (lt1 rfl) (.t rfl) agg57 rfl rfl rfl rfl)<| .cons (.keep (bw := false) (AStep.callV (us' := []) (avs := [.agg [rW false ((R56.mk y_23.Pq y_23.Cq).Pq) eW,iW ((R56.mk y_23.Pq y_23.Cq).Cq)]]) (cs' := []) (σ := sgT []) (bw := false) (lt1 rfl) (.t rfl) (c55 (β1 := false) n (R56.mk y_23.Pq y_23.Cq) hy_24) (.nil) (.cons (.t rfl) (.ren rfl) (.nil)) (.nil) (CallOk.mk' (.n) rfl) (fun _ h => by cases h)) (CallOk.mk' (.n) rfl) rfl rfl)<| .cons (.not (lt1 rfl) (.t rfl))<| .nil _ _ _) ⟨[(0,.own 1 2 0 x_21.2.2.length),(1,.clo (.func 55) [] []),(5,iW x_21.1),(6,iW x_21.2.1),(7,.ptr 2 0),(29,bW (!y_24))],[(2,⟨57,false,[rW false y_23.Pq eW,iW y_23.Cq]⟩),(1,⟨57,true,x_21.2.2.flatMap e56⟩)]⟩ rfl rfl ?_
    refine AWP.join' (S := fun p_28 : Int × (List R56) => ⟨[(0,.own 1 2 0 p_28.2.length),(1,.clo (.func 55) [] []),(5,iW p_28.1),(6,iW x_21.2.1)],[(1,⟨57,true,p_28.2.flatMap e56⟩)]⟩) h (fun p_28 h => ?_) (fun k_29 h => ?_)
    ·obtain ⟨t6_30,ht6_30,h⟩ := letS h
     refine AWP.rg (.cons (.move (lt1 rfl) (.t rfl))<| .cons (.add (lt1 rfl) (.t rfl) (.const _ _ _))<| .cons (.assign (lt1 rfl) (.t rfl))<| .nil _ _ _) ?_
     exact endJ (p_28.1,t6_30,p_28.2) h (by subst ht6_30; exact VC.sub (.of rfl) (.of rfl))
    ·refine AWP.cond (.t rfl) (fun hc => ?_) (fun hc => ?_)
     ·have h := iteT hc h
      obtain ⟨y_25,hy_25,h⟩ := bindS h
      obtain ⟨l1_26,hl1_26,h⟩ := bindS h
      refine AWP.sr (.cons (.move (lt1 rfl) (.t rfl))<| .cons (.move (lt1 rfl) (.t rfl))<| .cons (.loadPA (lt1 rfl) (.t rfl) agg57 rfl rfl rfl rfl)<| .cons (.idxOwn (lt1 rfl) (.t rfl) (.t rfl) Try.underlying53 sz57 rfl hy_25)<| .cons (.storePA (.t rfl) (.t rfl) sz57 rfl rfl (le_at encR56_len hy_25) (one_lit rfl) (fun _ => still_lit rfl) (splL_at encR56_len hy_25 hl1_26))<| .nil _ _ _) ?_
      refine AWP.vc (s' := ⟨[(0,.own 1 2 0 l1_26.length),(1,.clo (.func 55) [] []),(5,iW x_21.1),(6,iW x_21.2.1)],[(1,⟨57,true,l1_26.flatMap e56⟩)]⟩) (VC.sub (.c (lenC (Eq.symm (setLen hl1_26)) rfl)<| .c rfl<| .c rfl<| .c rfl<| .n _) (.of rfl)) ?_
      obtain ⟨t5_27,ht5_27,h⟩ := letS h
      refine AWP.rg (.cons (.move (lt1 rfl) (.t rfl))<| .cons (.add (lt1 rfl) (.t rfl) (.const _ _ _))<| .cons (.assign (lt1 rfl) (.t rfl))<| .nil _ _ _) ?_
      exact endJ (t5_27,l1_26) h (by subst ht5_27; exact VC.sub (.of rfl) (.of rfl))
     ·have h := iteF hc h
      refine AWP.skip ?_
      exact endJ (x_21.1,x_21.2.2) h (VC.sub (.of rfl) (.of rfl))
   ·have h := iteF hc h
    refine AWP.exit ?_
    exact endJ (x_21.1,x_21.2.2) h (VC.sub (.of rfl) (.of rfl))
theorem c77 (n : Nat) (a0 : Int) {r : Bool} (h : m77 n a0 = some r) : Spec Try.prog 77 [] [iW a0] [] (bW r) [] := by
 refine Spec.of (fn := Try.f77) Try.func77 Try.ntmps77 rfl rfl (le1 rfl) (fun w0 Zs Zb T0 ι0 => ?_)
 unfold m77 at h
 refine AWP.sv (.cons (.assign (lt1 rfl) (.const _ _ _))<| .nil _ _ _) ⟨[(0,iW a0)],[]⟩ rfl rfl ?_
 refine AWP.sr (.cons (.move (lt1 rfl) (.t rfl))<| .cons (.move (lt1 rfl) (.t rfl))<| .cons (.neq (lt1 rfl) (.t rfl) (.t rfl))<| .cons (.assign (lt1 rfl) (.t rfl))<| .nil _ _ _) ?_
 refine AWP.ret ?_
 obtain rfl := Option.some.inj h
 refine retJ (Res.vc (s' := ⟨[(2,bW (!decide (a0 = a0)))],[]⟩) (VC.sub (.of rfl) (.n _)) ?_)
 refine Res.drop (H := []) rfl ?_
 exact Res.of rfl (.cons (.tmp rfl) (.nil)) rfl rfl
theorem c66 (n : Nat) (a0 : Int) (a1 : Int) {r : Int} (h : m66 n a0 a1 = some r) : Spec Try.prog 66 [] [iW a0,iW a1] [] (iW r) [] := by
 refine Spec.of (fn := Try.f66) Try.func66 Try.ntmps66 rfl rfl (le1 rfl) (fun w0 Zs Zb T0 ι0 => ?_)
 unfold m66 at h
 refine AWP.sv (.cons (.assign (lt1 rfl) (.const _ _ _))<| .nil _ _ _) ⟨[(0,iW a0),(1,iW a1)],[]⟩ rfl rfl ?_
 obtain ⟨y_1,hy_1,h⟩ := bindS h
 refine AWP.sv (.cons (.move (lt1 rfl) (.t rfl))<| .cons (.call0 (bw := false) (lt1 rfl) (c77 n a0 hy_1) (.cons (.t rfl) (.ren rfl) (.nil)) rfl)<| .cons (.assign (lt1 rfl) (.t rfl))<| .nil _ _ _) ⟨[(0,iW a0),(1,iW a1),(5,bW y_1)],[]⟩ rfl rfl ?_
 obtain ⟨y_2,hy_2,h⟩ := bindS h
 refine AWP.sv (.cons (.move (lt1 rfl) (.t rfl))<| .cons (.call0 (bw := false) (lt1 rfl) (c77 n a1 hy_2) (.cons (.t rfl) (.ren rfl) (.nil)) rfl)<| .cons (.assign (lt1 rfl) (.t rfl))<| .nil _ _ _) ⟨[(0,iW a0),(1,iW a1),(5,bW y_1),(6,bW y_2)],[]⟩ rfl rfl ?_
 refine AWP.seq ?_
 refine AWP.sv (.cons (.move (lt1 rfl) (.t rfl))<| .nil _ _ _) ⟨[(0,iW a0),(1,iW a1),(6,bW y_2),(11,bW y_1)],[]⟩ rfl rfl ?_
 refine AWP.cond (.t rfl) (fun hc => ?_) (fun hc => ?_)
 ·have h := iteT hc h
  refine AWP.seq ?_
  refine AWP.sv (.cons (.move (lt1 rfl) (.t rfl))<| .nil _ _ _) ⟨[(12,bW y_2)],[]⟩ rfl rfl ?_
  refine AWP.cond (.t rfl) (fun hc => ?_) (fun hc => ?_)
  ·have h := iteT hc h
   refine AWP.sr (.cons (.assign (lt1 rfl) (.const _ _ _))<| .nil _ _ _) ?_
   refine AWP.ret ?_
   obtain rfl := Option.some.inj h
   refine retJ (Res.vc (s' := ⟨[(4,iW (0 : Int))],[]⟩) (VC.sub (.of rfl) (.n _)) ?_)
   refine Res.drop (H := []) rfl ?_
   exact Res.of rfl (.cons (.tmp rfl) (.nil)) rfl rfl
  ·have h := iteF hc h
   refine AWP.skip ?_
   refine AWP.sr (.cons (.assign (lt1 rfl) (.const _ _ _))<| .nil _ _ _) ?_
   refine AWP.ret ?_
   obtain rfl := Option.some.inj h
   refine retJ (Res.vc (s' := ⟨[(4,iW (-1 : Int))],[]⟩) (VC.sub (.of rfl) (.n _)) ?_)
   refine Res.drop (H := []) rfl ?_
   exact Res.of rfl (.cons (.tmp rfl) (.nil)) rfl rfl
 ·have h := iteF hc h
  refine AWP.skip ?_
  refine AWP.seq ?_
  refine AWP.sv (.cons (.move (lt1 rfl) (.t rfl))<| .nil _ _ _) ⟨[(0,iW a0),(1,iW a1),(13,bW y_2)],[]⟩ rfl rfl ?_
  refine AWP.cond (.t rfl) (fun hc => ?_) (fun hc => ?_)
  ·have h := iteT hc h
   refine AWP.sr (.cons (.assign (lt1 rfl) (.const _ _ _))<| .nil _ _ _) ?_
   refine AWP.ret ?_
   obtain rfl := Option.some.inj h
   refine retJ (Res.vc (s' := ⟨[(4,iW (1 : Int))],[]⟩) (VC.sub (.of rfl) (.n _)) ?_)
   refine Res.drop (H := []) rfl ?_
   exact Res.of rfl (.cons (.tmp rfl) (.nil)) rfl rfl
  ·have h := iteF hc h
   refine AWP.skip ?_
   refine AWP.seq ?_
   refine AWP.sv (.cons (.move (lt1 rfl) (.t rfl))<| .cons (.move (lt1 rfl) (.t rfl))<| .cons (.lss (lt1 rfl) (.t rfl) (.t rfl))<| .nil _ _ _) ⟨[(0,iW a0),(1,iW a1),(16,bW (decide (a0 < a1)))],[]⟩ rfl rfl ?_
   refine AWP.cond (.t rfl) (fun hc => ?_) (fun hc => ?_)
   ·have h := iteT hc h
    refine AWP.sr (.cons (.assign (lt1 rfl) (.const _ _ _))<| .nil _ _ _) ?_
    refine AWP.ret ?_
    obtain rfl := Option.some.inj h
    refine retJ (Res.vc (s' := ⟨[(4,iW (-1 : Int))],[]⟩) (VC.sub (.of rfl) (.n _)) ?_)
    refine Res.drop (H := []) rfl ?_
    exact Res.of rfl (.cons (.tmp rfl) (.nil)) rfl rfl
   ·have h := iteF hc h
    refine AWP.skip ?_
    refine AWP.seq ?_
    refine AWP.sv (.cons (.move (lt1 rfl) (.t rfl))<| .cons (.move (lt1 rfl) (.t rfl))<| .cons (.gtr (lt1 rfl) (.t rfl) (.t rfl))<| .nil _ _ _) ⟨[(19,bW (decide (a1 < a0)))],[]⟩ rfl rfl ?_
    refine AWP.cond (.t rfl) (fun hc => ?_) (fun hc => ?_)
    ·have h := iteT hc h
     refine AWP.sr (.cons (.assign (lt1 rfl) (.const _ _ _))<| .nil _ _ _) ?_
     refine AWP.ret ?_
     obtain rfl := Option.some.inj h
     refine retJ (Res.vc (s' := ⟨[(4,iW (1 : Int))],[]⟩) (VC.sub (.of rfl) (.n _)) ?_)
     refine Res.drop (H := []) rfl ?_
     exact Res.of rfl (.cons (.tmp rfl) (.nil)) rfl rfl
    ·have h := iteF hc h
     refine AWP.skip ?_
     refine AWP.sr (.cons (.assign (lt1 rfl) (.const _ _ _))<| .nil _ _ _) ?_
     refine AWP.ret ?_
     obtain rfl := Option.some.inj h
     refine retJ (Res.vc (s' := ⟨[(4,iW (0 : Int))],[]⟩) (VC.sub (.of rfl) (.n _)) ?_)
     refine Res.drop (H := []) rfl ?_
     exact Res.of rfl (.cons (.tmp rfl) (.nil)) rfl rfl
theorem c58 {β1 : Bool} {β2 : Bool} (n : Nat) (a0 : (List Int)) (a1 : (List Int)) {r : Int} (h : m58 n a0 a1 = some r) : Spec Try.prog 58 [] [rW β1 a0 eW,rW β2 a1 eW] [] (iW r) [] := by
 refine Spec.of (fn := Try.f58) Try.func58 Try.ntmps58 rfl rfl (le1 rfl) (fun w0 Zs Zb T0 ι0 => ?_)
 unfold m58 at h
 refine AWP.sv (.cons (.assign (lt1 rfl) (.const _ _ _))<| .nil _ _ _) ⟨[(0,rW β1 a0 eW),(1,rW β2 a1 eW)],[]⟩ rfl rfl ?_
 refine AWP.seq ?_
 refine AWP.sv (.cons (.move (lt1 rfl) (.t rfl))<| .cons (.lenRd (lt1 rfl) (.t rfl) Try.underlying22)<| .cons (.move (lt1 rfl) (.const _ _ _))<| .nil _ _ _) ⟨[(0,rW β1 a0 eW),(1,rW β2 a1 eW),(9,rW β1 a0 eW),(10,iW (a0.length : Int)),(11,iW (0 : Int))],[]⟩ rfl rfl ?_
 refine AWP.joinB' (S := fun p_12 : Unit => ⟨[(0,rW β1 a0 eW),(1,rW β2 a1 eW)],[]⟩) h (fun p_12 h => ?_) (fun k_13 h => ?_)
 ·refine AWP.seq ?_
  refine AWP.sv (.cons (.move (lt1 rfl) (.t rfl))<| .cons (.lenRd (lt1 rfl) (.t rfl) Try.underlying22)<| .cons (.move (lt1 rfl) (.t rfl))<| .cons (.lenRd (lt1 rfl) (.t rfl) Try.underlying22)<| .cons (.lss (lt1 rfl) (.t rfl) (.t rfl))<| .nil _ _ _) ⟨[(35,bW (decide ((a0.length : Int) < (a1.length : Int))))],[]⟩ rfl rfl ?_
  refine AWP.cond (.t rfl) (fun hc => ?_) (fun hc => ?_)
  ·have h := iteT hc h
   refine AWP.sr (.cons (.assign (lt1 rfl) (.const _ _ _))<| .nil _ _ _) ?_
   refine AWP.ret ?_
   obtain rfl := Option.some.inj h
   refine retJ (Res.vc (s' := ⟨[(4,iW (-1 : Int))],[]⟩) (VC.sub (.of rfl) (.n _)) ?_)
   refine Res.drop (H := []) rfl ?_
   exact Res.of rfl (.cons (.tmp rfl) (.nil)) rfl rfl
  ·have h := iteF hc h
   refine AWP.skip ?_
   refine AWP.sr (.cons (.assign (lt1 rfl) (.const _ _ _))<| .nil _ _ _) ?_
   refine AWP.ret ?_
   obtain rfl := Option.some.inj h
   refine retJ (Res.vc (s' := ⟨[(4,iW (0 : Int))],[]⟩) (VC.sub (.of rfl) (.n _)) ?_)
   refine Res.drop (H := []) rfl ?_
   exact Res.of rfl (.cons (.tmp rfl) (.nil)) rfl rfl
 ·refine AWP.vs ⟨[(0,rW β1 a0 eW),(1,rW β2 a1 eW),(9,rW β1 a0 eW),(10,iW (a0.length : Int)),(11,iW (0 : Int))],[]⟩ rfl rfl ?_
  refine AWP.loopM (S := fun x_6 : Int => ⟨[(0,rW β1 a0 eW),(1,rW β2 a1 eW),(9,rW β1 a0 eW),(10,iW (a0.length : Int)),(11,iW x_6)],[]⟩) (x := (0 : Int)) (fun nx_7 x_6 h => ?_) h
  unfold m58_L1 at h
  refine AWP.sv (.cons (.lss (lt1 rfl) (.t rfl) (.t rfl))<| .nil _ _ _) ⟨[(0,rW β1 a0 eW),(1,rW β2 a1 eW),(9,rW β1 a0 eW),(10,iW (a0.length : Int)),(11,iW x_6),(12,bW (decide (x_6 < (a0.length : Int))))],[]⟩ rfl rfl ?_
  refine AWP.seq ?_
  refine AWP.cond (.t rfl) (fun hc => ?_) (fun hc => ?_)
  ·have h := iteT hc h
   refine AWP.skip ?_
   refine AWP.seq ?_
   refine AWP.block ?_
   obtain ⟨y_8,hy_8,h⟩ := bindS h
   refine AWP.sv (.cons (.move (lt1 rfl) (.t rfl))<| .cons (.indexRd (enc := eW) (lt1 rfl) (.t rfl) (.t rfl) Try.underlying22 sz3 (encI_len .i64) rfl hy_8)<| .cons (.loadR (v := iW y_8) (lt1 rfl) (.t rfl) one3 rfl)<| .cons (.assign (lt1 rfl) (.t rfl))<| .cons (.assign (lt1 rfl) (.t rfl))<| .nil _ _ _) ⟨[(0,rW β1 a0 eW),(1,rW β2 a1 eW),(9,rW β1 a0 eW),(10,iW (a0.length : Int)),(11,iW x_6),(5,iW x_6),(6,iW y_8)],[]⟩ rfl rfl ?_
   refine AWP.seq ?_
   refine AWP.sv (.cons (.move (lt1 rfl) (.t rfl))<| .cons (.move (lt1 rfl) (.t rfl))<| .cons (.lenRd (lt1 rfl) (.t rfl) Try.underlying22)<| .cons (.geq (lt1 rfl) (.t rfl) (.t rfl))<| .nil _ _ _) ⟨[(0,rW β1 a0 eW),(1,rW β2 a1 eW),(9,rW β1 a0 eW),(10,iW (a0.length : Int)),(11,iW x_6),(5,iW x_6),(6,iW y_8),(19,bW (decide ((a1.length : Int) ≤ x_6)))],[]⟩ rfl rfl ?_
   refine AWP.cond (.t rfl) (fun hc => ?_) (fun hc => ?_)
   ·have h := iteT hc h
    refine AWP.sr (.cons (.assign (lt1 rfl) (.const _ _ _))<| .nil _ _ _) ?_
    refine AWP.ret ?_
    obtain rfl := Option.some.inj h
    refine retJ (Res.vc (s' := ⟨[(4,iW (1 : Int))],[]⟩) (VC.sub (.of rfl) (.n _)) ?_)
    refine Res.drop (H := []) rfl ?_
    exact Res.of rfl (.cons (.tmp rfl) (.nil)) rfl rfl
   ·have h := iteF hc h
    refine AWP.skip ?_
    obtain ⟨y_9,hy_9,h⟩ := bindS h
    refine AWP.sv (.cons (.move (lt1 rfl) (.t rfl))<| .cons (.move (lt1 rfl) (.t rfl))<| .cons (.indexRd (enc := eW) (lt1 rfl) (.t rfl) (.t rfl) Try.underlying22 sz3 (encI_len .i64) rfl hy_9)<| .cons (.loadR (v := iW y_9) (lt1 rfl) (.t rfl) one3 rfl)<| .cons (.assign (lt1 rfl) (.t rfl))<| .nil _ _ _) ⟨[(0,rW β1 a0 eW),(1,rW β2 a1 eW),(9,rW β1 a0 eW),(10,iW (a0.length : Int)),(11,iW x_6),(6,iW y_8),(7,iW y_9)],[]⟩ rfl rfl ?_
    obtain ⟨y_10,hy_10,h⟩ := bindS h
    refine AWP.sv (.cons (.move (lt1 rfl) (.t rfl))<| .cons (.move (lt1 rfl) (.t rfl))<| .cons (.call0 (bw := false) (lt1 rfl) (c66 n y_8 y_9 hy_10) (.cons (.t rfl) (.ren rfl) (.cons (.t rfl) (.ren rfl) (.nil))) rfl)<| .cons (.assign (lt1 rfl) (.t rfl))<| .nil _ _ _) ⟨[(0,rW β1 a0 eW),(1,rW β2 a1 eW),(9,rW β1 a0 eW),(10,iW (a0.length : Int)),(11,iW x_6),(8,iW y_10)],[]⟩ rfl rfl ?_
    refine AWP.sv (.cons (.move (lt1 rfl) (.t rfl))<| .cons (.neq (lt1 rfl) (.t rfl) (.const _ _ _))<| .nil _ _ _) ⟨[(0,rW β1 a0 eW),(1,rW β2 a1 eW),(9,rW β1 a0 eW),(10,iW (a0.length : Int)),(11,iW x_6),(8,iW y_10),(28,bW (!decide (y_10 = (0 : Int))))],[]⟩ rfl rfl ?_
    refine AWP.cond (.t rfl) (fun hc => ?_) (fun hc => ?_)
    ·have h := iteT hc h
     refine AWP.sr (.cons (.move (lt1 rfl) (.t rfl))<| .cons (.assign (lt1 rfl) (.t rfl))<| .nil _ _ _) ?_
     refine AWP.ret ?_
     obtain rfl := Option.some.inj h
     refine retJ (Res.vc (s' := ⟨[(4,iW y_10)],[]⟩) (VC.sub (.of rfl) (.n _)) ?_)
     refine Res.drop (H := []) rfl ?_
     exact Res.of rfl (.cons (.tmp rfl) (.nil)) rfl rfl
    ·have h := iteF hc h
     refine AWP.skip ?_
     obtain ⟨t11_11,ht11_11,h⟩ := letS h
     refine AWP.rg (.cons (.add (lt1 rfl) (.t rfl) (.const _ _ _))<| .cons (.move (lt1 rfl) (.t rfl))<| .nil _ _ _) ?_
     exact endJ t11_11 h (by subst ht11_11; exact VC.sub (.of rfl) (.n _))
  ·have h := iteF hc h
   refine AWP.exit ?_
   exact endJ () h (VC.sub (.of rfl) (.n _))
theorem c57 {β1 : Bool} {β2 : Bool} (n : Nat) (a0 : R56) (a1 : R56) {r : Int} (h : m57 n a0 a1 = some r) : Spec Try.prog 57 [] [.agg [rW β1 a0.Pq eW,iW a0.Cq],.agg [rW β2 a1.Pq eW,iW a1.Cq]] [] (iW r) [] := by
 refine Spec.of (fn := Try.f57) Try.func57 Try.ntmps57 rfl rfl (le1 rfl) (fun w0 Zs Zb T0 ι0 => ?_)
 unfold m57 at h
 refine AWP.sv (.cons (.box (t := 1) (n := 2) (lt1 rfl) (nm rfl) (.t rfl) (by first | exact ⟨rfl,rfl⟩ | rfl) rfl)<| .cons (.box (t := 2) (n := 2) (lt1 rfl) (nm rfl) (.t rfl) (by first | exact ⟨rfl,rfl⟩ | rfl) rfl)<| .cons (.assign (lt1 rfl) (.const _ _ _))<| .nil _ _ _) ⟨[(2,.ptr 1 0),(3,.ptr 2 0)],[(2,⟨57,false,[rW β2 a1.Pq eW,iW a1.Cq]⟩),(1,⟨57,false,[rW β1 a0.Pq eW,iW a0.Cq]⟩)]⟩ rfl rfl ?_
 obtain ⟨y_1,hy_1,h⟩ := bindS h
 refine AWP.sr (.cons (.fieldP (lt1 rfl) (.t rfl) fld57_0)<| .cons (.loadP (lt1 rfl) (.t rfl) one22 rfl rfl rfl)<| .cons (.fieldP (lt1 rfl) (.t rfl) fld57_0)<| .cons (.loadP (lt1 rfl) (.t rfl) one22 rfl rfl rfl)<| .cons (.call0 (bw := false) (lt1 rfl) (c58 (β1 := β2) (β2 := β1) n a1.Pq a0.Pq hy_1) (.cons (.t rfl) (.ren rfl) (.cons (.t rfl) (.ren rfl) (.nil))) rfl)<| .cons (.assign (lt1 rfl) (.t rfl))<| .nil _ _ _) ?_
 refine AWP.ret ?_
 obtain rfl := Option.some.inj h
 refine retJ (Res.vc (s' := ⟨[(4,iW y_1)],[]⟩) (VC.sub (.of rfl) (.n _)) ?_)
 refine Res.drop (H := []) rfl ?_
 exact Res.of rfl (.cons (.tmp rfl) (.nil)) rfl rfl
theorem c75 (n : Nat) (a0_b : (List R56)) (a1 : Int) (a2 : Int) {r : (List R56)} (h : m75 n a0_b a1 a2 = some r) : Spec Try.prog 75 [1] [.own 1 2 0 a0_b.length,iW a1,iW a2,.clo (.func 57) [] []] [(1,⟨57,true,a0_b.flatMap e56⟩)] (.tup []) [(1,⟨57,true,r.flatMap e56⟩)] := by
 refine Spec.of (fn := Try.f75) Try.func75 Try.ntmps75 rfl rfl (le1 rfl) (fun w0 Zs Zb T0 ι0 => ?_)
 unfold m75 at h
 obtain ⟨t8_1,ht8_1,h⟩ := letS h
 refine AWP.sr (.cons (.move (lt1 rfl) (.t rfl))<| .cons (.add (lt1 rfl) (.t rfl) (.const _ _ _))<| .cons (.assign (lt1 rfl) (.t rfl))<| .nil _ _ _) ?_
 refine AWP.vc (s' := ⟨[(0,.own 1 2 0 a0_b.length),(1,iW a1),(2,iW a2),(3,.clo (.func 57) [] []),(8,iW t8_1)],[(1,⟨57,true,a0_b.flatMap e56⟩)]⟩) (by subst ht8_1; exact VC.sub (.of rfl) (.of rfl)) ?_
 refine AWP.joinB' (S := fun p_117 : (List R56) => ⟨[],[(1,⟨57,true,p_117.flatMap e56⟩)]⟩) h (fun p_117 h => ?_) (fun k_118 h => ?_)
 ·obtain rfl := Option.some.inj h
  refine norJ (Res.vc (s' := ⟨[],[(1,⟨57,true,p_117.flatMap e56⟩)]⟩) (VC.sub (.n _) (.of rfl)) ?_)
  refine Res.sub (H := [(1,⟨57,true,p_117.flatMap e56⟩)]) (.of rfl) ?_
  exact Res.of rfl (.nil) rfl rfl
 ·refine AWP.vs ⟨[(0,.own 1 2 0 a0_b.length),(1,iW a1),(2,iW a2),(3,.clo (.func 57) [] []),(8,iW t8_1)],[(1,⟨57,true,a0_b.flatMap e56⟩)]⟩ rfl rfl ?_
  refine AWP.loopM (S := fun x_78 : Int × (List R56) => ⟨[(0,.own 1 2 0 x_78.2.length),(1,iW a1),(2,iW a2),(3,.clo (.func 57) [] []),(8,iW x_78.1)],[(1,⟨57,true,x_78.2.flatMap e56⟩)]⟩) (x := (t8_1,a0_b)) (fun nx_79 x_78 h => ?_) h
  unfold m75_L3 at h
  refine AWP.seq ?_
  refine AWP.sv (.cons (.move (lt1 rfl) (.t rfl))<| .cons (.move (lt1 rfl) (.t rfl))<| .cons (.lss (lt1 rfl) (.t rfl) (.t rfl))<| .nil _ _ _) ⟨[(0,.own 1 2 0 x_78.2.length),(1,iW a1),(2,iW a2),(3,.clo (.func 57) [] []),(8,iW x_78.1),(14,bW (decide (x_78.1 < a2)))],[(1,⟨57,true,x_78.2.flatMap e56⟩)]⟩ rfl rfl ?_
  refine AWP.cond (.t rfl) (fun hc => ?_) (fun hc => ?_)
  ·have h := iteT hc h
   refine AWP.skip ?_
   refine AWP.seq ?_
   refine AWP.block ?_
   refine AWP.sv (.cons (.move (lt1 rfl) (.t rfl))<| .cons (.assign (lt1 rfl) (.t rfl))<| .nil _ _ _) ⟨[(0,.own 1 2 0 x_78.2.length),(1,iW a1),(2,iW a2),(3,.clo (.func 57) [] []),(8,iW x_78.1),(9,iW x_78.1)],[(1,⟨57,true,x_78.2.flatMap e56⟩)]⟩ rfl rfl ?_
   refine AWP.joinB' (S := fun p_114 : (List R56) => ⟨[(0,.own 1 2 0 p_114.length),(1,iW a1),(2,iW a2),(3,.clo (.func 57) [] []),(8,iW x_78.1)],[(1,⟨57,true,p_114.flatMap e56⟩)]⟩) h (fun p_114 h => ?_) (fun k_115 h => ?_)
   ·obtain ⟨t8_116,ht8_116,h⟩ := letS h
    refine AWP.rg (.cons (.move (lt1 rfl) (.t rfl))<| .cons (.add (lt1 rfl) (.t rfl) (.const _ _ _))<| .cons (.assign (lt1 rfl) (.t rfl))<| .nil _ _ _) ?_
    exact endJ (t8_116,p_114) h (by subst ht8_116; exact VC.sub (.of rfl) (.of rfl))
   ·refine AWP.vs ⟨[(0,.own 1 2 0 x_78.2.length),(1,iW a1),(2,iW a2),(3,.clo (.func 57) [] []),(8,iW x_78.1),(9,iW x_78.1)],[(1,⟨57,true,x_78.2.flatMap e56⟩)]⟩ rfl rfl ?_
    refine AWP.loopM (S := fun x_102 : Int × (List R56) => ⟨[(0,.own 1 2 0 x_102.2.length),(1,iW a1),(2,iW a2),(3,.clo (.func 57) [] []),(8,iW x_78.1),(9,iW x_102.1)],[(1,⟨57,true,x_102.2.flatMap e56⟩)]⟩) (x := (x_78.1,x_78.2)) (fun nx_103 x_102 h => ?_) h
    unfold m75_L4 at h
    refine AWP.seq ?_
    refine AWP.seq ?_
    obtain ⟨y_104,hy_104,h⟩ := bindS h
    obtain ⟨y_105,hy_105,h⟩ := bindS h
    obtain ⟨y_106,hy_106,h⟩ := bindS h
    refine AWP.dw mixed [(0,.own 1 2 0 x_102.2.length),(1,iW a1),(2,iW a2),(3,.clo (.func 57) [] []),(8,iW x_78.1),(9,iW x_102.1)] [] [dO [5] 18 (iW x_102.1),dO [1] 19 (iW a1),dO [6,7] 20 (bW (decide (a1 < x_102.1))),dO [8] 21 (bW (decide (a1 < x_102.1))),dO [9,3] 22 (.gd (decide (a1 < x_102.1)) (.clo (.func 57) [] [])),dO [9,0] 23 (.gd (decide (a1 < x_102.1)) (.own 1 2 0 x_102.2.length)),dO [9,5] 24 (.gd (decide (a1 < x_102.1)) (iW x_102.1)),dO [9,11,12] 25 (.gd (decide (a1 < x_102.1)) (.ptr 1 (0 + (x_102.1).toNat * 2))),dO [9,13] 26 (.gd (decide (a1 < x_102.1)) (.agg [rW false y_104.Pq eW,iW y_104.Cq])),dO [9,0] 27 (.gd (decide (a1 < x_102.1)) (.own 1 2 0 x_102.2.length)),dO [9,5] 28 (.gd (decide (a1 < x_102.1)) (iW x_102.1)),dO [9,16] 29 (.gd (decide (a1 < x_102.1)) (iW (IntKind.wrap .i64 (x_102.1 - (1 : Int))))),dO [9,15,17] 30 (.gd (decide (a1 < x_102.1)) (.ptr 1 (0 + ((IntKind.wrap .i64 (x_102.1 - (1 : Int)))).toNat * 2))),dO [9,18] 31 (.gd (decide (a1 < x_102.1)) (.agg [rW false y_105.Pq eW,iW y_105.Cq])),dO [9,10,14,19] 32 (.gd (decide (a1 < x_102.1)) (iW y_106)),dO [9,20] 33 (.gd (decide (a1 < x_102.1)) (bW (decide (y_106 < (0 : Int))))),dO [9,21] 34 (bW ((decide (a1 < x_102.1)) && (decide (y_106 < (0 : Int)))))] [] [[(1,⟨57,true,x_102.2.flatMap e56⟩)]] [[],[],[0,2],[0,3],[0,4],[0,4],[0,4],[0,4,5,7],[0,4,5,8],[0,4],[0,4],[0,4,10,11],[0,4,9,12],[0,4,9,13],[0,14],[0,15],[0,16]] [0,1,2,3,4,5,22] rfl rfl (by kernel_rfl) rfl (.p rfl (fun _ q _ => .move (lt1 rfl) (q.t 0 rfl))<| .p rfl (fun _ q _ => .move (lt1 rfl) (q.t 0 rfl))<| .p rfl (fun _ q _ => .gtr (lt1 rfl) (q.t 0 rfl) (q.t 1 rfl))<| .p rfl (fun _ q _ => .move (lt1 rfl) (q.t 0 rfl))<| .gt rfl rfl rfl rfl rfl (fun hg _ q _ => .move (lt1 rfl) (q.t 1 rfl))<| .rt rfl rfl rfl rfl rfl rfl (fun hg _ q => .move (lt1 rfl) (q.t 1 rfl))<| .gt rfl rfl rfl rfl rfl (fun hg _ q _ => .move (lt1 rfl) (q.t 1 rfl))<| .rt rfl rfl rfl rfl rfl rfl (fun hg _ q => .idxOwn (lt1 rfl) (.gd hg (q.t 1 rfl)) (.gd hg (q.t 2 rfl)) Try.underlying52 sz57 rfl (gdB hy_104 hg))<| .rt rfl rfl rfl rfl rfl rfl (fun hg _ q => .loadPA (lt1 rfl) (.gd hg (q.t 1 rfl)) agg57 rfl (cells_at encR56_len (gdB hy_104 hg)) rfl rfl)<| .rt rfl rfl rfl rfl rfl rfl (fun hg _ q => .move (lt1 rfl) (q.t 1 rfl))<| .gt rfl rfl rfl rfl rfl (fun hg _ q _ => .move (lt1 rfl) (q.t 1 rfl))<| .gt rfl rfl rfl rfl rfl (fun hg _ q _ => .sub (lt1 rfl) (.gd hg (q.t 1 rfl)) (.const _ _ _))<| .rt rfl rfl rfl rfl rfl rfl (fun hg _ q => .idxOwn (lt1 rfl) (.gd hg (q.t 1 rfl)) (.gd hg (q.t 2 rfl)) Try.underlying52 sz57 rfl (gdB hy_105 hg))<| .rt rfl rfl rfl rfl rfl rfl (fun hg _ q => .loadPA (lt1 rfl) (.gd hg (q.t 1 rfl)) agg57 rfl (cells_at encR56_len (gdB hy_105 hg)) rfl rfl)<| .rt rfl rfl rfl rfl rfl rfl (fun hg _ q => .keep (bw := false) (AStep.callV (us' := []) (avs := [.agg [rW false ((R56.mk y_104.Pq y_104.Cq).Pq) eW,iW ((R56.mk y_104.Pq y_104.Cq).Cq)],.agg [rW false ((R56.mk y_105.Pq y_105.Cq).Pq) eW,iW ((R56.mk y_105.Pq y_105.Cq).Cq)]]) (cs' := []) (σ := sgT []) (bw := false) (lt1 rfl) (.gd hg (q.t 1 rfl)) (c57 (β1 := false) (β2 := false) n (R56.mk y_104.Pq y_104.Cq) (R56.mk y_105.Pq y_105.Cq) (gdB hy_106 hg)) (.nil) (.cons (.gd hg (q.t 2 rfl)) (.ren rfl) (.cons (.gd hg (q.t 3 rfl)) (.ren rfl) (.nil))) (.nil) (CallOk.mk' (.n) rfl) (fun _ h => by cases h)) (CallOk.mk' (.n) rfl) rfl rfl)<| .gt rfl rfl rfl rfl rfl (fun hg _ q _ => .lss (lt1 rfl) (.gd hg (q.t 1 rfl)) (.const _ _ _))<| .p rfl (fun _ q _ => .pickAnd (lt1 rfl) (q.t 0 rfl) (q.t 1 rfl) (.const _ _ _))<| .nil _) rfl rfl ?_
    refine AWP.vs ⟨[(0,.own 1 2 0 x_102.2.length),(1,iW a1),(2,iW a2),(3,.clo (.func 57) [] []),(8,iW x_78.1),(9,iW x_102.1),(34,bW ((decide (a1 < x_102.1)) && (decide (y_106 < (0 : Int)))))],[(1,⟨57,true,x_102.2.flatMap e56⟩)]⟩ rfl rfl ?_
    refine AWP.cond (.t rfl) (fun hc => ?_) (fun hc => ?_)
    ·have h := iteT hc h
     refine AWP.skip ?_
     refine AWP.seq ?_
     refine AWP.block ?_
     obtain ⟨y_107,hy_107,h⟩ := bindS h
     obtain ⟨y_108,hy_108,h⟩ := bindS h
     obtain ⟨y_109,hy_109,h⟩ := bindS h
     obtain ⟨l1_110,hl1_110,h⟩ := bindS h
     obtain ⟨y_111,hy_111,h⟩ := bindS h
     obtain ⟨l1_112,hl1_112,h⟩ := bindS h
     refine AWP.dw mixed [(0,.own 1 2 0 x_102.2.length),(1,iW a1),(2,iW a2),(3,.clo (.func 57) [] []),(8,iW x_78.1),(9,iW x_102.1),(34,bW ((decide (a1 < x_102.1)) && (decide (y_106 < (0 : Int)))))] [] [dO [0] 37 (.own 1 2 0 x_102.2.length),⟨[5],0,2,some (38,iW x_102.1),[]⟩,⟨[0],0,1,some (39,.own 1 2 0 x_102.2.length),[]⟩,⟨[5],0,2,some (40,iW x_102.1),[]⟩,⟨[10],0,2,some (41,iW (IntKind.wrap .i64 (x_102.1 - (1 : Int)))),[]⟩,dO [0] 42 (.own 1 2 0 x_102.2.length),⟨[5],0,2,some (43,iW x_102.1),[]⟩,⟨[13],0,2,some (44,iW (IntKind.wrap .i64 (x_102.1 - (1 : Int)))),[]⟩,dO [12,14] 45 (.ptr 1 (0 + ((IntKind.wrap .i64 (x_102.1 - (1 : Int)))).toNat * 2)),dO [15] 46 (.agg [rW false y_107.Pq eW,iW y_107.Cq]),dO [0] 47 (.own 1 2 0 x_102.2.length),⟨[5],0,2,some (48,iW x_102.1),[]⟩,dO [17,18] 49 (.ptr 1 (0 + (x_102.1).toNat * 2)),dO [19] 50 (.agg [rW false y_108.Pq eW,iW y_108.Cq]),dO [7,8] 51 (.ptr 1 (0 + (x_102.1).toNat * 2)),⟨[21,16],0,0,none,[]⟩,⟨[9,11],1,1,some (52,.ptr 1 (0 + ((IntKind.wrap .i64 (x_102.1 - (1 : Int)))).toNat * 2)),[]⟩,⟨[22,20],1,1,none,[]⟩] [15,17] [[(1,⟨57,true,x_102.2.flatMap e56⟩)],[(1,⟨57,true,l1_110.flatMap e56⟩)],[(1,⟨57,true,l1_112.flatMap e56⟩)]] [[],[],[],[],[3,4],[],[],[6,7],[5,8],[5,9],[],[],[10,12],[10,13],[0,2,5,14],[0,2,5,15],[0,16],[0,17]] [0,1,2,3,4,5] rfl rfl (by kernel_rfl) rfl (.read rfl (.c (.put (fun E hE => .move (lt1 rfl) (hE.t 0 rfl))) (.n))<| .p rfl (fun _ q _ => .move (lt1 rfl) (q.t 0 rfl))<| .read rfl (.c (.put (fun E hE => .move (lt1 rfl) (hE.t 0 rfl))) (.c (.put (fun E hE => .move (lt1 rfl) (hE.t 0 rfl))) (.n)))<| .p rfl (fun _ q _ => .move (lt1 rfl) (q.t 0 rfl))<| .p rfl (fun _ q _ => .sub (lt1 rfl) (q.t 0 rfl) (.const _ _ _))<| .read rfl (.c (.put (fun E hE => .move (lt1 rfl) (hE.t 0 rfl))) (.n))<| .p rfl (fun _ q _ => .move (lt1 rfl) (q.t 0 rfl))<| .p rfl (fun _ q _ => .sub (lt1 rfl) (q.t 0 rfl) (.const _ _ _))<| .read rfl (.c (.put (fun E hE => .idxOwn (lt1 rfl) (hE.t 0 rfl) (hE.t 1 rfl) Try.underlying52 sz57 rfl hy_107)) (.n))<| .read rfl (.c (.put (fun E hE => .loadPA (lt1 rfl) (hE.t 0 rfl) agg57 rfl (cells_at encR56_len hy_107) rfl rfl)) (.n))<| .read rfl (.c (.put (fun E hE => .move (lt1 rfl) (hE.t 0 rfl))) (.n))<| .p rfl (fun _ q _ => .move (lt1 rfl) (q.t 0 rfl))<| .read rfl (.c (.put (fun E hE => .idxOwn (lt1 rfl) (hE.t 0 rfl) (hE.t 1 rfl) Try.underlying52 sz57 rfl hy_108)) (.n))<| .read rfl (.c (.put (fun E hE => .loadPA (lt1 rfl) (hE.t 0 rfl) agg57 rfl (cells_at encR56_len hy_108) rfl rfl)) (.n))<| .read rfl (.c (.put (fun E hE => .idxOwn (lt1 rfl) (hE.t 0 rfl) (hE.t 1 rfl) Try.underlying52 sz57 rfl hy_109)) (.n))<| .turn rfl rfl rfl rfl rfl (.store (fun E hE => .storePA (hE.t 0 rfl) (hE.t 1 rfl) sz57 rfl rfl (le_at encR56_len hy_109) (one_lit rfl) (fun _ => still_lit rfl) (splL_at encR56_len hy_109 hl1_110)) rfl)<| .read rfl (.c (.put (fun E hE => .idxOwn (lt1 rfl) (.ownN (Eq.symm (setLen hl1_110)) (hE.t 0 rfl)) (hE.t 1 rfl) Try.underlying52 sz57 rfl hy_111)) (.n))<| .turn rfl rfl rfl rfl rfl (.store (fun E hE => .storePA (hE.t 0 rfl) (hE.t 1 rfl) sz57 rfl rfl (le_at encR56_len hy_111) (one_lit rfl) (fun _ => still_lit rfl) (splL_at encR56_len hy_111 hl1_112)) rfl)<| .nil _) rfl rfl ?_
     refine AWP.vc (s' := ⟨[(0,.own 1 2 0 l1_112.length),(1,iW a1),(2,iW a2),(3,.clo (.func 57) [] []),(8,iW x_78.1),(9,iW x_102.1)],[(1,⟨57,true,l1_112.flatMap e56⟩)]⟩) (VC.sub (.c (lenC (Eq.symm (Eq.trans (setLen hl1_112) (setLen hl1_110))) rfl)<| .c rfl<| .c rfl<| .c rfl<| .c rfl<| .c rfl<| .n _) (.of rfl)) ?_
     obtain ⟨t9_113,ht9_113,h⟩ := letS h
     refine AWP.rg (.cons (.move (lt1 rfl) (.t rfl))<| .cons (.sub (lt1 rfl) (.t rfl) (.const _ _ _))<| .cons (.assign (lt1 rfl) (.t rfl))<| .nil _ _ _) ?_
     exact endJ (t9_113,l1_112) h (by subst ht9_113; exact VC.sub (.of rfl) (.of rfl))
    ·have h := iteF hc h
     refine AWP.exit ?_
     exact endJ x_102.2 h (VC.sub (.of rfl) (.of rfl))
  ·have h := iteF hc h
   refine AWP.exit ?_
   exact endJ x_78.2 h (VC.sub (.n _) (.of rfl))
theorem c80 (n : Nat) (a0_b : (List R56)) (a1 : Int) (a2 : Int) (a3 : Int) {r : (List R56)} (h : m80 n a0_b a1 a2 a3 = some r) : Spec Try.prog 80 [1] [.own 1 2 0 a0_b.length,iW a1,iW a2,iW a3,.clo (.func 57) [] []] [(1,⟨57,true,a0_b.flatMap e56⟩)] (.tup []) [(1,⟨57,true,r.flatMap e56⟩)] := by
 refine Spec.of (fn := Try.f80) Try.func80 Try.ntmps80 rfl rfl (le1 rfl) (fun w0 Zs Zb T0 ι0 => ?_)
 unfold m80 at h
 refine AWP.sv (.cons (.assign (lt1 rfl) (.const _ _ _))<| .nil _ _ _) ⟨[(0,.own 1 2 0 a0_b.length),(1,iW a1),(2,iW a2),(3,iW a3),(10,iW (0 : Int))],[(1,⟨57,true,a0_b.flatMap e56⟩)]⟩ rfl rfl ?_
 refine AWP.joinB' (S := fun p_26 : (List R56) => ⟨[],[(1,⟨57,true,p_26.flatMap e56⟩)]⟩) h (fun p_26 h => ?_) (fun k_27 h => ?_)
 ·obtain rfl := Option.some.inj h
  refine norJ (Res.vc (s' := ⟨[],[(1,⟨57,true,p_26.flatMap e56⟩)]⟩) (VC.sub (.n _) (.of rfl)) ?_)
  refine Res.sub (H := [(1,⟨57,true,p_26.flatMap e56⟩)]) (.of rfl) ?_
  exact Res.of rfl (.nil) rfl rfl
 ·refine AWP.vs ⟨[(0,.own 1 2 0 a0_b.length),(1,iW a1),(2,iW a2),(3,iW a3),(10,iW (0 : Int))],[(1,⟨57,true,a0_b.flatMap e56⟩)]⟩ rfl rfl ?_
  refine AWP.loopM (S := fun x_17 : Int × (List R56) => ⟨[(0,.own 1 2 0 x_17.2.length),(1,iW a1),(2,iW a2),(3,iW a3),(10,iW x_17.1)],[(1,⟨57,true,x_17.2.flatMap e56⟩)]⟩) (x := ((0 : Int),a0_b)) (fun nx_18 x_17 h => ?_) h
  unfold m80_L1 at h
  refine AWP.seq ?_
  refine AWP.sv (.cons (.move (lt1 rfl) (.t rfl))<| .cons (.move (lt1 rfl) (.t rfl))<| .cons (.lss (lt1 rfl) (.t rfl) (.t rfl))<| .nil _ _ _) ⟨[(0,.own 1 2 0 x_17.2.length),(1,iW a1),(2,iW a2),(3,iW a3),(10,iW x_17.1),(13,bW (decide (x_17.1 < a3)))],[(1,⟨57,true,x_17.2.flatMap e56⟩)]⟩ rfl rfl ?_
  refine AWP.cond (.t rfl) (fun hc => ?_) (fun hc => ?_)
  ·have h := iteT hc h
   refine AWP.skip ?_
   refine AWP.seq ?_
   refine AWP.block ?_
   obtain ⟨y_19,hy_19,h⟩ := bindS h
   obtain ⟨y_20,hy_20,h⟩ := bindS h
   obtain ⟨y_21,hy_21,h⟩ := bindS h
   obtain ⟨l1_22,hl1_22,h⟩ := bindS h
   obtain ⟨y_23,hy_23,h⟩ := bindS h
   obtain ⟨l1_24,hl1_24,h⟩ := bindS h
   refine AWP.dw mixed [(0,.own 1 2 0 x_17.2.length),(1,iW a1),(2,iW a2),(3,iW a3),(10,iW x_17.1),(13,bW (decide (x_17.1 < a3)))] [] [dO [0] 16 (.own 1 2 0 x_17.2.length),⟨[1],0,2,some (17,iW a1),[]⟩,⟨[4],0,2,some (18,iW x_17.1),[]⟩,⟨[7,8],0,2,some (19,iW (IntKind.wrap .i64 (a1 + x_17.1))),[]⟩,⟨[0],0,1,some (20,.own 1 2 0 x_17.2.length),[]⟩,⟨[2],0,2,some (21,iW a2),[]⟩,⟨[4],0,2,some (22,iW x_17.1),[]⟩,⟨[11,12],0,2,some (23,iW (IntKind.wrap .i64 (a2 + x_17.1))),[]⟩,dO [0] 24 (.own 1 2 0 x_17.2.length),⟨[2],0,2,some (25,iW a2),[]⟩,⟨[4],0,2,some (26,iW x_17.1),[]⟩,⟨[15,16],0,2,some (27,iW (IntKind.wrap .i64 (a2 + x_17.1))),[]⟩,dO [14,17] 28 (.ptr 1 (0 + ((IntKind.wrap .i64 (a2 + x_17.1))).toNat * 2)),dO [18] 29 (.agg [rW false y_19.Pq eW,iW y_19.Cq]),dO [0] 30 (.own 1 2 0 x_17.2.length),⟨[1],0,2,some (31,iW a1),[]⟩,⟨[4],0,2,some (32,iW x_17.1),[]⟩,⟨[21,22],0,2,some (33,iW (IntKind.wrap .i64 (a1 + x_17.1))),[]⟩,dO [20,23] 34 (.ptr 1 (0 + ((IntKind.wrap .i64 (a1 + x_17.1))).toNat * 2)),dO [24] 35 (.agg [rW false y_20.Pq eW,iW y_20.Cq]),dO [6,9] 36 (.ptr 1 (0 + ((IntKind.wrap .i64 (a1 + x_17.1))).toNat * 2)),⟨[26,19],0,0,none,[]⟩,⟨[10,13],1,1,some (37,.ptr 1 (0 + ((IntKind.wrap .i64 (a2 + x_17.1))).toNat * 2)),[]⟩,⟨[27,25],1,1,none,[]⟩] [21,23] [[(1,⟨57,true,x_17.2.flatMap e56⟩)],[(1,⟨57,true,l1_22.flatMap e56⟩)],[(1,⟨57,true,l1_24.flatMap e56⟩)]] [[],[],[],[1,3],[],[],[],[5,7],[],[],[],[9,11],[8,12],[8,13],[],[],[],[15,17],[14,18],[14,19],[0,4,8,20],[0,4,8,21],[0,22],[0,23]] [0,1,2,3,4] rfl rfl (by kernel_rfl) rfl (.read rfl (.c (.put (fun E hE => .move (lt1 rfl) (hE.t 0 rfl))) (.n))<| .p rfl (fun _ q _ => .move (lt1 rfl) (q.t 0 rfl))<| .p rfl (fun _ q _ => .move (lt1 rfl) (q.t 0 rfl))<| .p rfl (fun _ q _ => .add (lt1 rfl) (q.t 0 rfl) (q.t 1 rfl))<| .read rfl (.c (.put (fun E hE => .move (lt1 rfl) (hE.t 0 rfl))) (.c (.put (fun E hE => .move (lt1 rfl) (hE.t 0 rfl))) (.n)))<| .p rfl (fun _ q _ => .move (lt1 rfl) (q.t 0 rfl))<| .p rfl (fun _ q _ => .move (lt1 rfl) (q.t 0 rfl))<| .p rfl (fun _ q _ => .add (lt1 rfl) (q.t 0 rfl) (q.t 1 rfl))<| .read rfl (.c (.put (fun E hE => .move (lt1 rfl) (hE.t 0 rfl))) (.n))<| .p rfl (fun _ q _ => .move (lt1 rfl) (q.t 0 rfl))<| .p rfl (fun _ q _ => .move (lt1 rfl) (q.t 0 rfl))<| .p rfl (fun _ q _ => .add (lt1 rfl) (q.t 0 rfl) (q.t 1 rfl))<| .read rfl (.c (.put (fun E hE => .idxOwn (lt1 rfl) (hE.t 0 rfl) (hE.t 1 rfl) Try.underlying52 sz57 rfl hy_19)) (.n))<| .read rfl (.c (.put (fun E hE => .loadPA (lt1 rfl) (hE.t 0 rfl) agg57 rfl (cells_at encR56_len hy_19) rfl rfl)) (.n))<| .read rfl (.c (.put (fun E hE => .move (lt1 rfl) (hE.t 0 rfl))) (.n))<| .p rfl (fun _ q _ => .move (lt1 rfl) (q.t 0 rfl))<| .p rfl (fun _ q _ => .move (lt1 rfl) (q.t 0 rfl))<| .p rfl (fun _ q _ => .add (lt1 rfl) (q.t 0 rfl) (q.t 1 rfl))<| .read rfl (.c (.put (fun E hE => .idxOwn (lt1 rfl) (hE.t 0 rfl) (hE.t 1 rfl) Try.underlying52 sz57 rfl hy_20)) (.n))<| .read rfl (.c (.put (fun E hE => .loadPA (lt1 rfl) (hE.t 0 rfl) agg57 rfl (cells_at encR56_len hy_20) rfl rfl)) (.n))<| .read rfl (.c (.put (fun E hE => .idxOwn (lt1 rfl) (hE.t 0 rfl) (hE.t 1 rfl) Try.underlying52 sz57 rfl hy_21)) (.n))<| .turn rfl rfl rfl rfl rfl (.store (fun E hE => .storePA (hE.t 0 rfl) (hE.t 1 rfl) sz57 rfl rfl (le_at encR56_len hy_21) (one_lit rfl) (fun _ => still_lit rfl) (splL_at encR56_len hy_21 hl1_22)) rfl)<| .read rfl (.c (.put (fun E hE => .idxOwn (lt1 rfl) (.ownN (Eq.symm (setLen hl1_22)) (hE.t 0 rfl)) (hE.t 1 rfl) Try.underlying52 sz57 rfl hy_23)) (.n))<| .turn rfl rfl rfl rfl rfl (.store (fun E hE => .storePA (hE.t 0 rfl) (hE.t 1 rfl) sz57 rfl rfl (le_at encR56_len hy_23) (one_lit rfl) (fun _ => still_lit rfl) (splL_at encR56_len hy_23 hl1_24)) rfl)<| .nil _) rfl rfl ?_
   refine AWP.vc (s' := ⟨[(0,.own 1 2 0 l1_24.length),(1,iW a1),(2,iW a2),(3,iW a3),(10,iW x_17.1)],[(1,⟨57,true,l1_24.flatMap e56⟩)]⟩) (VC.sub (.c (lenC (Eq.symm (Eq.trans (setLen hl1_24) (setLen hl1_22))) rfl)<| .c rfl<| .c rfl<| .c rfl<| .c rfl<| .n _) (.of rfl)) ?_
   obtain ⟨t10_25,ht10_25,h⟩ := letS h
   refine AWP.rg (.cons (.move (lt1 rfl) (.t rfl))<| .cons (.add (lt1 rfl) (.t rfl) (.const _ _ _))<| .cons (.assign (lt1 rfl) (.t rfl))<| .nil _ _ _) ?_
   exact endJ (t10_25,l1_24) h (by subst ht10_25; exact VC.sub (.of rfl) (.of rfl))
  ·have h := iteF hc h
   refine AWP.exit ?_
   exact endJ x_17.2 h (VC.sub (.n _) (.of rfl))
theorem c79 (n : Nat) (a0_b : (List R56)) (a1 : Int) (a2 : Int) (a3 : Int) {r : (List R56)} (h : m79 n a0_b a1 a2 a3 = some r) : Spec Try.prog 79 [1] [.own 1 2 0 a0_b.length,iW a1,iW a2,iW a3,.clo (.func 57) [] []] [(1,⟨57,true,a0_b.flatMap e56⟩)] (.tup []) [(1,⟨57,true,r.flatMap e56⟩)] := by
 refine Spec.of (fn := Try.f79) Try.func79 Try.ntmps79 rfl rfl (le1 rfl) (fun w0 Zs Zb T0 ι0 => ?_)
 unfold m79 at h
 obtain ⟨t10_1,ht10_1,h⟩ := letS h
 refine AWP.sr (.cons (.move (lt1 rfl) (.t rfl))<| .cons (.move (lt1 rfl) (.t rfl))<| .cons (.sub (lt1 rfl) (.t rfl) (.t rfl))<| .cons (.assign (lt1 rfl) (.t rfl))<| .nil _ _ _) ?_
 refine AWP.vc (s' := ⟨[(0,.own 1 2 0 a0_b.length),(2,iW a2),(3,iW a3),(4,.clo (.func 57) [] []),(10,iW t10_1)],[(1,⟨57,true,a0_b.flatMap e56⟩)]⟩) (by subst ht10_1; exact VC.sub (.of rfl) (.of rfl)) ?_
 obtain ⟨t11_2,ht11_2,h⟩ := letS h
 refine AWP.sr (.cons (.move (lt1 rfl) (.t rfl))<| .cons (.move (lt1 rfl) (.t rfl))<| .cons (.sub (lt1 rfl) (.t rfl) (.t rfl))<| .cons (.assign (lt1 rfl) (.t rfl))<| .nil _ _ _) ?_
 refine AWP.vc (s' := ⟨[(0,.own 1 2 0 a0_b.length),(2,iW a2),(4,.clo (.func 57) [] []),(10,iW t10_1),(11,iW t11_2)],[(1,⟨57,true,a0_b.flatMap e56⟩)]⟩) (by subst ht11_2; exact VC.sub (.of rfl) (.of rfl)) ?_
 refine AWP.seq ?_
 refine AWP.joinB' (S := fun p_31 : Int × (List R56) => ⟨[(0,.own 1 2 0 p_31.2.length),(2,iW a2),(4,.clo (.func 57) [] []),(10,iW p_31.1)],[(1,⟨57,true,p_31.2.flatMap e56⟩)]⟩) h (fun p_31 h => ?_) (fun k_32 h => ?_)
 ·obtain ⟨y_33,hy_33,h⟩ := bindS h
  obtain ⟨ha_34,h⟩ := asrtS h
  refine AWP.rg (.cons (.move (lt1 rfl) (.t rfl))<| .cons (.move (lt1 rfl) (.t rfl))<| .cons (.move (lt1 rfl) (.t rfl))<| .cons (.sub (lt1 rfl) (.t rfl) (.t rfl))<| .cons (.move (lt1 rfl) (.t rfl))<| .cons (.move (lt1 rfl) (.t rfl))<| .cons (.move (lt1 rfl) (.t rfl))<| .cons (.call (σ := fun _ => 1) (bw := false) (lt1 rfl) (c80 n p_31.2 (IntKind.wrap .i64 (a2 - p_31.1)) a2 p_31.1 hy_33) (.cons (.t rfl) (.ren rfl) (.cons (.t rfl) (.ren rfl) (.cons (.t rfl) (.ren rfl) (.cons (.t rfl) (.ren rfl) (.cons (.t rfl) (.ren rfl) (.nil)))))) (CallOk.mk' (.c rfl (.n)) rfl))<| .nil _ _ _) ?_
  obtain rfl := Option.some.inj h
  refine norJ (Res.vc (s' := ⟨[],[(1,⟨57,true,y_33.flatMap e56⟩)]⟩) (VC.sub (.n _) (.of rfl)) ?_)
  refine Res.sub (H := [(1,⟨57,true,y_33.flatMap e56⟩)]) (.of rfl) ?_
  exact Res.of rfl (.nil) rfl rfl
 ·refine AWP.vs ⟨[(0,.own 1 2 0 a0_b.length),(2,iW a2),(4,.clo (.func 57) [] []),(10,iW t10_1),(11,iW t11_2)],[(1,⟨57,true,a0_b.flatMap e56⟩)]⟩ rfl rfl ?_
  refine AWP.loopM (S := fun x_21 : Int × Int × (List R56) => ⟨[(0,.own 1 2 0 x_21.2.2.length),(2,iW a2),(4,.clo (.func 57) [] []),(10,iW x_21.1),(11,iW x_21.2.1)],[(1,⟨57,true,x_21.2.2.flatMap e56⟩)]⟩) (x := (t10_1,t11_2,a0_b)) (fun nx_22 x_21 h => ?_) h
  unfold m79_L1 at h
  refine AWP.seq ?_
  refine AWP.sv (.cons (.move (lt1 rfl) (.t rfl))<| .cons (.move (lt1 rfl) (.t rfl))<| .cons (.neq (lt1 rfl) (.t rfl) (.t rfl))<| .nil _ _ _) ⟨[(0,.own 1 2 0 x_21.2.2.length),(2,iW a2),(4,.clo (.func 57) [] []),(10,iW x_21.1),(11,iW x_21.2.1),(20,bW (!decide (x_21.1 = x_21.2.1)))],[(1,⟨57,true,x_21.2.2.flatMap e56⟩)]⟩ rfl rfl ?_
  refine AWP.cond (.t rfl) (fun hc => ?_) (fun hc => ?_)
  ·have h := iteT hc h
   refine AWP.skip ?_
   refine AWP.block ?_
   refine AWP.sv (.cons (.move (lt1 rfl) (.t rfl))<| .cons (.move (lt1 rfl) (.t rfl))<| .cons (.gtr (lt1 rfl) (.t rfl) (.t rfl))<| .nil _ _ _) ⟨[(0,.own 1 2 0 x_21.2.2.length),(2,iW a2),(4,.clo (.func 57) [] []),(10,iW x_21.1),(11,iW x_21.2.1),(23,bW (decide (x_21.2.1 < x_21.1)))],[(1,⟨57,true,x_21.2.2.flatMap e56⟩)]⟩ rfl rfl ?_
   refine AWP.join' (S := fun p_29 : Int × Int × (List R56) => ⟨[(0,.own 1 2 0 p_29.2.2.length),(2,iW a2),(4,.clo (.func 57) [] []),(10,iW p_29.1),(11,iW p_29.2.1)],[(1,⟨57,true,p_29.2.2.flatMap e56⟩)]⟩) h (fun p_29 h => ?_) (fun k_30 h => ?_)
   ·exact endJ (p_29.1,p_29.2.1,p_29.2.2) h (VC.sub (.of rfl) (.of rfl))
   ·refine AWP.cond (.t rfl) (fun hc => ?_) (fun hc => ?_)
    ·have h := iteT hc h
     obtain ⟨y_23,hy_23,h⟩ := bindS h
     obtain ⟨ha_24,h⟩ := asrtS h
     refine AWP.sr (.cons (.move (lt1 rfl) (.t rfl))<| .cons (.move (lt1 rfl) (.t rfl))<| .cons (.move (lt1 rfl) (.t rfl))<| .cons (.sub (lt1 rfl) (.t rfl) (.t rfl))<| .cons (.move (lt1 rfl) (.t rfl))<| .cons (.move (lt1 rfl) (.t rfl))<| .cons (.move (lt1 rfl) (.t rfl))<| .cons (.call (σ := fun _ => 1) (bw := false) (lt1 rfl) (c80 n x_21.2.2 (IntKind.wrap .i64 (a2 - x_21.1)) a2 x_21.2.1 hy_23) (.cons (.t rfl) (.ren rfl) (.cons (.t rfl) (.ren rfl) (.cons (.t rfl) (.ren rfl) (.cons (.t rfl) (.ren rfl) (.cons (.t rfl) (.ren rfl) (.nil)))))) (CallOk.mk' (.c rfl (.n)) rfl))<| .nil _ _ _) ?_
     refine AWP.vc (s' := ⟨[(0,.own 1 2 0 y_23.length),(2,iW a2),(4,.clo (.func 57) [] []),(10,iW x_21.1),(11,iW x_21.2.1)],[(1,⟨57,true,y_23.flatMap e56⟩)]⟩) (VC.sub (.c (lenC (Eq.symm (Eq.symm ha_24)) rfl)<| .c rfl<| .c rfl<| .c rfl<| .c rfl<| .n _) (.of rfl)) ?_
     obtain ⟨t10_25,ht10_25,h⟩ := letS h
     refine AWP.rg (.cons (.move (lt1 rfl) (.t rfl))<| .cons (.move (lt1 rfl) (.t rfl))<| .cons (.sub (lt1 rfl) (.t rfl) (.t rfl))<| .cons (.assign (lt1 rfl) (.t rfl))<| .nil _ _ _) ?_
     exact endJ (t10_25,x_21.2.1,y_23) h (by subst ht10_25; exact VC.sub (.of rfl) (.of rfl))
    ·have h := iteF hc h
     obtain ⟨y_26,hy_26,h⟩ := bindS h
     obtain ⟨ha_27,h⟩ := asrtS h
     refine AWP.sr (.cons (.move (lt1 rfl) (.t rfl))<| .cons (.move (lt1 rfl) (.t rfl))<| .cons (.move (lt1 rfl) (.t rfl))<| .cons (.sub (lt1 rfl) (.t rfl) (.t rfl))<| .cons (.move (lt1 rfl) (.t rfl))<| .cons (.move (lt1 rfl) (.t rfl))<| .cons (.add (lt1 rfl) (.t rfl) (.t rfl))<| .cons (.move (lt1 rfl) (.t rfl))<| .cons (.sub (lt1 rfl) (.t rfl) (.t rfl))<| .cons (.move (lt1 rfl) (.t rfl))<| .cons (.move (lt1 rfl) (.t rfl))<| .cons (.call (σ := fun _ => 1) (bw := false) (lt1 rfl) (c80 n x_21.2.2 (IntKind.wrap .i64 (a2 - x_21.1)) (IntKind.wrap .i64 ((IntKind.wrap .i64 (a2 + x_21.2.1)) - x_21.1)) x_21.1 hy_26) (.cons (.t rfl) (.ren rfl) (.cons (.t rfl) (.ren rfl) (.cons (.t rfl) (.ren rfl) (.cons (.t rfl) (.ren rfl) (.cons (.t rfl) (.ren rfl) (.nil)))))) (CallOk.mk' (.c rfl (.n)) rfl))<| .nil _ _ _) ?_
     refine AWP.vc (s' := ⟨[(0,.own 1 2 0 y_26.length),(2,iW a2),(4,.clo (.func 57) [] []),(10,iW x_21.1),(11,iW x_21.2.1)],[(1,⟨57,true,y_26.flatMap e56⟩)]⟩) (VC.sub (.c (lenC (Eq.symm (Eq.symm ha_27)) rfl)<| .c rfl<| .c rfl<| .c rfl<| .c rfl<| .n _) (.of rfl)) ?_
     obtain ⟨t11_28,ht11_28,h⟩ := letS h
     refine AWP.rg (.cons (.move (lt1 rfl) (.t rfl))<| .cons (.move (lt1 rfl) (.t rfl))<| .cons (.sub (lt1 rfl) (.t rfl) (.t rfl))<| .cons (.assign (lt1 rfl) (.t rfl))<| .nil _ _ _) ?_
     exact endJ (x_21.1,t11_28,y_26) h (by subst ht11_28; exact VC.sub (.of rfl) (.of rfl))
  ·have h := iteF hc h
   refine AWP.exit ?_
   exact endJ (x_21.1,x_21.2.2) h (VC.sub (.of rfl) (.of rfl))
end Go.AB
