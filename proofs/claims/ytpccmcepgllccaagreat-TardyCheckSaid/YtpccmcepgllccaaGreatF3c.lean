import Derived.Test.YtpccmcepgllccaaGreatProg
import Derived.Test.YtpccmcepgllccaaGreatF3b
import Derived.KernelRfl
set_option linter.unusedVariables false
set_option maxRecDepth 20000
namespace Go.AB
open Go Go.Proofs
theorem c76 {β1 : Bool} (n : Nat) (a0 : (List R63)) (a1 : Bool) {r : Int} (h : m76 n a0 a1 = some r) : Spec Tryz.prog 76 [] [rW β1 a0 e63,bW a1] [] (iW r) [] := by
 refine Spec.of (fn := Tryz.f76) Tryz.func76 Tryz.ntmps76 rfl rfl (le1 rfl) (fun w0 Zs Zb T0 ι0 => ?_)
 unfold m76 at h
 refine AWP.seq ?_
 refine AWP.rg (.cons (.assign (l1 rfl) (.const _ _ _))<| .nil _ _ _) ?_
 refine AWP.vs ⟨[(0,rW β1 a0 e63),(1,bW a1)],[]⟩ rfl rfl ?_
 refine AWP.seq ?_
 refine AWP.rg (.cons (.assign (l1 rfl) (.const _ _ _))<| .nil _ _ _) ?_
 refine AWP.vs ⟨[(0,rW β1 a0 e63),(1,bW a1),(5,iW (0 : Int))],[]⟩ rfl rfl ?_
 refine AWP.seq ?_
 refine AWP.seq ?_
 refine AWP.rg (.cons (.assign (l1 rfl) (.const _ _ _))<| .nil _ _ _) ?_
 refine AWP.vs ⟨[(0,rW β1 a0 e63),(1,bW a1),(5,iW (0 : Int)),(6,iW (0 : Int))],[]⟩ rfl rfl ?_
 refine AWP.joinB' (S := fun p_20 : Int => ⟨[(0,rW β1 a0 e63),(1,bW a1),(5,iW p_20)],[]⟩) h (fun p_20 h => ?_) (fun k_21 h => ?_)
 ·refine AWP.seq ?_
  refine AWP.rg (.cons (.assign (l1 rfl) (.const _ _ _))<| .cons (.assign (l1 rfl) (.const _ _ _))<| .nil _ _ _) ?_
  refine AWP.vs ⟨[(0,rW β1 a0 e63),(1,bW a1),(5,iW p_20),(7,iW (0 : Int)),(8,bW false)],[]⟩ rfl rfl ?_
  refine AWP.seq ?_
  refine AWP.seq ?_
  refine AWP.rg (.cons (.move (l1 rfl) (.t rfl))<| .nil _ _ _) ?_
  refine AWP.vs ⟨[(0,rW β1 a0 e63),(5,iW p_20),(7,iW (0 : Int)),(8,bW false),(42,bW a1)],[]⟩ rfl rfl ?_
  refine AWP.cond (.t rfl) (fun hc => ?_) (fun hc => ?_)
  ·have h := iteT hc h
   refine AWP.seq ?_
   refine AWP.seq ?_
   refine AWP.rg (.cons (.assign (l1 rfl) (.const _ _ _))<| .nil _ _ _) ?_
   refine AWP.vs ⟨[(0,rW β1 a0 e63),(7,iW (0 : Int)),(8,bW false),(9,iW (0 : Int))],[]⟩ rfl rfl ?_
   refine AWP.joinB' (S := fun p_398 : Int => ⟨[(7,iW p_398)],[]⟩) h (fun p_398 h => ?_) (fun k_399 h => ?_)
   ·refine AWP.seq ?_
    refine AWP.rg (.cons (.move (l1 rfl) (.t rfl))<| .cons (.assign (l1 rfl) (.t rfl))<| .nil _ _ _) ?_
    refine AWP.ret ?_
    obtain rfl := Option.some.inj h
    refine retJ (Res.vc (s' := ⟨[(4,iW p_398)],[]⟩) (VC.sub (.of rfl) (.n _)) ?_)
    refine Res.drop (H := []) rfl ?_
    exact Res.of rfl (.cons (.tmp rfl) (.nil)) rfl rfl
   ·refine AWP.vs ⟨[(0,rW β1 a0 e63),(7,iW (0 : Int)),(8,bW false),(9,iW (0 : Int))],[]⟩ rfl rfl ?_
    refine AWP.loopM (S := fun x_272 : Int × Bool × Int => ⟨[(0,rW β1 a0 e63),(7,iW x_272.1),(8,bW x_272.2.1),(9,iW x_272.2.2)],[]⟩) (x := ((0 : Int),false,(0 : Int))) (fun nx_273 x_272 h => ?_) h
    unfold m76_L10 at h
    refine AWP.seq ?_
    refine AWP.seq ?_
    refine AWP.rg (.cons (.move (l1 rfl) (.t rfl))<| .cons (.move (l1 rfl) (.t rfl))<| .cons (.lenRd (l1 rfl) (.t rfl) Tryz.underlying22)<| .cons (.lss (l1 rfl) (.t rfl) (.t rfl))<| .nil _ _ _) ?_
    refine AWP.vs ⟨[(0,rW β1 a0 e63),(7,iW x_272.1),(8,bW x_272.2.1),(9,iW x_272.2.2),(46,bW (decide (x_272.2.2 < (a0.length : Int))))],[]⟩ rfl rfl ?_
    refine AWP.cond (.t rfl) (fun hc => ?_) (fun hc => ?_)
    ·have h := iteT hc h
     refine AWP.skip ?_
     refine AWP.seq ?_
     refine AWP.block ?_
     refine AWP.seq ?_
     refine AWP.rg (.cons (.assign (l1 rfl) (.const _ _ _))<| .nil _ _ _) ?_
     refine AWP.vs ⟨[(0,rW β1 a0 e63),(7,iW x_272.1),(8,bW x_272.2.1),(9,iW x_272.2.2),(10,iW (0 : Int))],[]⟩ rfl rfl ?_
     refine AWP.joinB' (S := fun p_395 : Int × Bool => ⟨[(0,rW β1 a0 e63),(7,iW p_395.1),(8,bW p_395.2),(9,iW x_272.2.2)],[]⟩) h (fun p_395 h => ?_) (fun k_396 h => ?_)
     ·obtain ⟨t9_397,ht9_397,h⟩ := letS h
      refine AWP.rg (.cons (.move (l1 rfl) (.t rfl))<| .cons (.add (l1 rfl) (.t rfl) (.const _ _ _))<| .cons (.assign (l1 rfl) (.t rfl))<| .nil _ _ _) ?_
      exact endJ (p_395.1,p_395.2,t9_397) h (by subst ht9_397; exact VC.sub (.of rfl) (.n _))
     ·refine AWP.vs ⟨[(0,rW β1 a0 e63),(7,iW x_272.1),(8,bW x_272.2.1),(9,iW x_272.2.2),(10,iW (0 : Int))],[]⟩ rfl rfl ?_
      refine AWP.loopM (S := fun x_354 : Int × Bool × Int => ⟨[(0,rW β1 a0 e63),(7,iW x_354.1),(8,bW x_354.2.1),(9,iW x_272.2.2),(10,iW x_354.2.2)],[]⟩) (x := (x_272.1,x_272.2.1,(0 : Int))) (fun nx_355 x_354 h => ?_) h
      unfold m76_L13 at h
      refine AWP.seq ?_
      refine AWP.seq ?_
      refine AWP.rg (.cons (.move (l1 rfl) (.t rfl))<| .cons (.move (l1 rfl) (.t rfl))<| .cons (.lenRd (l1 rfl) (.t rfl) Tryz.underlying22)<| .cons (.lss (l1 rfl) (.t rfl) (.t rfl))<| .nil _ _ _) ?_
      refine AWP.vs ⟨[(0,rW β1 a0 e63),(7,iW x_354.1),(8,bW x_354.2.1),(9,iW x_272.2.2),(10,iW x_354.2.2),(52,bW (decide (x_354.2.2 < (a0.length : Int))))],[]⟩ rfl rfl ?_
      refine AWP.cond (.t rfl) (fun hc => ?_) (fun hc => ?_)
      ·have h := iteT hc h
       refine AWP.skip ?_
       refine AWP.seq ?_
       refine AWP.block ?_
       refine AWP.seq ?_
       refine AWP.rg (.cons (.assign (l1 rfl) (.const _ _ _))<| .nil _ _ _) ?_
       refine AWP.vs ⟨[(0,rW β1 a0 e63),(7,iW x_354.1),(8,bW x_354.2.1),(9,iW x_272.2.2),(10,iW x_354.2.2),(11,iW (0 : Int))],[]⟩ rfl rfl ?_
       refine AWP.seq ?_
       refine AWP.seq ?_
       refine AWP.rg (.cons (.assign (l1 rfl) (.const _ _ _))<| .nil _ _ _) ?_
       refine AWP.vs ⟨[(0,rW β1 a0 e63),(7,iW x_354.1),(8,bW x_354.2.1),(9,iW x_272.2.2),(10,iW x_354.2.2),(11,iW (0 : Int)),(12,iW (0 : Int))],[]⟩ rfl rfl ?_
       refine AWP.joinB' (S := fun p_387 : Int => ⟨[(0,rW β1 a0 e63),(7,iW x_354.1),(8,bW x_354.2.1),(9,iW x_272.2.2),(10,iW x_354.2.2),(11,iW p_387)],[]⟩) h (fun p_387 h => ?_) (fun k_388 h => ?_)
       ·refine AWP.seq ?_
        obtain ⟨y_389,hy_389,h⟩ := bindS h
        obtain ⟨y_390,hy_390,h⟩ := bindS h
        obtain ⟨t13_391,ht13_391,h⟩ := letS h
        refine AWP.draw (s' := ⟨[(0,rW β1 a0 e63),(7,iW x_354.1),(8,bW x_354.2.1),(9,iW x_272.2.2),(10,iW x_354.2.2),(11,iW p_387),(13,iW (IntKind.wrap .i64 ((IntKind.wrap .i64 (y_389.Rl + p_387)) - y_390.Due)))],[]⟩) mixed [⟨0,rW β1 a0 e63,none,[]⟩,⟨7,iW x_354.1,none,[]⟩,⟨8,bW x_354.2.1,none,[]⟩,⟨9,iW x_272.2.2,none,[]⟩,⟨10,iW x_354.2.2,none,[]⟩,⟨11,iW p_387,none,[]⟩,⟨92,rW β1 a0 e63,some 0,[]⟩,⟨93,iW x_272.2.2,some 1,[]⟩,⟨94,.rptr β1 [iW y_389.Rl,iW y_389.Ln,iW y_389.Due],some 2,[]⟩,⟨95,.rptr β1 [iW y_389.Rl,iW y_389.Ln,iW y_389.Due],some 3,[]⟩,⟨96,iW y_389.Rl,some 4,[]⟩,⟨97,iW p_387,some 5,[]⟩,⟨98,iW (IntKind.wrap .i64 (y_389.Rl + p_387)),some 6,[]⟩,⟨99,rW β1 a0 e63,some 7,[]⟩,⟨100,iW x_354.2.2,some 8,[]⟩,⟨101,.rptr β1 [iW y_390.Rl,iW y_390.Ln,iW y_390.Due],some 9,[]⟩,⟨102,.rptr β1 [iW y_390.Due],some 10,[]⟩,⟨103,iW y_390.Due,some 11,[]⟩,⟨104,iW (IntKind.wrap .i64 ((IntKind.wrap .i64 (y_389.Rl + p_387)) - y_390.Due)),some 12,[]⟩,⟨13,iW (IntKind.wrap .i64 ((IntKind.wrap .i64 (y_389.Rl + p_387)) - y_390.Due)),some 13,[]⟩] [⟨[0],0,0,some (92,rW β1 a0 e63),[]⟩,⟨[3],0,0,some (93,iW x_272.2.2),[]⟩,⟨[6,7],0,0,some (94,.rptr β1 [iW y_389.Rl,iW y_389.Ln,iW y_389.Due]),[]⟩,⟨[8],0,0,some (95,.rptr β1 [iW y_389.Rl,iW y_389.Ln,iW y_389.Due]),[]⟩,⟨[9],0,0,some (96,iW y_389.Rl),[]⟩,⟨[5],0,0,some (97,iW p_387),[]⟩,⟨[10,11],0,0,some (98,iW (IntKind.wrap .i64 (y_389.Rl + p_387))),[]⟩,⟨[0],0,0,some (99,rW β1 a0 e63),[]⟩,⟨[4],0,0,some (100,iW x_354.2.2),[]⟩,⟨[13,14],0,0,some (101,.rptr β1 [iW y_390.Rl,iW y_390.Ln,iW y_390.Due]),[]⟩,⟨[15],0,0,some (102,.rptr β1 [iW y_390.Due]),[]⟩,⟨[16],0,0,some (103,iW y_390.Due),[]⟩,⟨[12,17],0,0,some (104,iW (IntKind.wrap .i64 ((IntKind.wrap .i64 (y_389.Rl + p_387)) - y_390.Due))),[]⟩,⟨[18],0,0,some (13,iW (IntKind.wrap .i64 ((IntKind.wrap .i64 (y_389.Rl + p_387)) - y_390.Due))),[]⟩] [] [[]] [[],[],[0,1],[0,1,2],[0,1,2,3],[],[0,1,2,3,4,5],[],[],[7,8],[7,8,9],[7,8,9,10],[0,1,2,3,4,5,6,7,8,9,10,11],[0,1,2,3,4,5,6,7,8,9,10,11,12]] (by kernel_rfl) (by kernel_rfl) (BornL.ok (.o<| .o<| .o<| .o<| .o<| .o<| .b rfl rfl<| .b rfl rfl<| .b rfl rfl<| .b rfl rfl<| .b rfl rfl<| .b rfl rfl<| .b rfl rfl<| .b rfl rfl<| .b rfl rfl<| .b rfl rfl<| .b rfl rfl<| .b rfl rfl<| .b rfl rfl<| .b rfl rfl<| .n)) (BaseL.ok (.o rfl<| .o rfl<| .o rfl<| .o rfl<| .o rfl<| .o rfl<| .b<| .b<| .b<| .b<| .b<| .b<| .b<| .b<| .b<| .b<| .b<| .b<| .b<| .b<| .n)) rfl (by decide) (allLt rfl) (.pure rfl (fun H => .put (fun E hE => .move (l1 rfl) (hE.t 0 rfl)))<| .pure rfl (fun H => .put (fun E hE => .move (l1 rfl) (hE.t 0 rfl)))<| .pure rfl (fun H => .put (fun E hE => .indexRd (enc := e63) (l1 rfl) (hE.t 0 rfl) (hE.t 1 rfl) Tryz.underlying22 sz79 encR63_len rfl hy_389))<| .pure rfl (fun H => .put (fun E hE => .fieldR (l1 rfl) (hE.t 0 rfl) fld79_0 rfl))<| .pure rfl (fun H => .put (fun E hE => .loadR (v := iW y_389.Rl) (l1 rfl) (hE.t 0 rfl) one3 rfl))<| .pure rfl (fun H => .put (fun E hE => .move (l1 rfl) (hE.t 0 rfl)))<| .pure rfl (fun H => .put (fun E hE => .add (l1 rfl) (hE.t 0 rfl) (hE.t 1 rfl)))<| .pure rfl (fun H => .put (fun E hE => .move (l1 rfl) (hE.t 0 rfl)))<| .pure rfl (fun H => .put (fun E hE => .move (l1 rfl) (hE.t 0 rfl)))<| .pure rfl (fun H => .put (fun E hE => .indexRd (enc := e63) (l1 rfl) (hE.t 0 rfl) (hE.t 1 rfl) Tryz.underlying22 sz79 encR63_len rfl hy_390))<| .pure rfl (fun H => .put (fun E hE => .fieldR (l1 rfl) (hE.t 0 rfl) fld79_2 rfl))<| .pure rfl (fun H => .put (fun E hE => .loadR (v := iW y_390.Due) (l1 rfl) (hE.t 0 rfl) one3 rfl))<| .pure rfl (fun H => .put (fun E hE => .sub (l1 rfl) (hE.t 0 rfl) (hE.t 1 rfl)))<| .pure rfl (fun H => .put (fun E hE => .assign (l1 rfl) (hE.t 0 rfl)))<| .nil _) (fun E hE => .c (DInv.at hE (k := 0) rfl rfl rfl)<| .c (DInv.at hE (k := 1) rfl rfl rfl)<| .c (DInv.at hE (k := 2) rfl rfl rfl)<| .c (DInv.at hE (k := 3) rfl rfl rfl)<| .c (DInv.at hE (k := 4) rfl rfl rfl)<| .c (DInv.at hE (k := 5) rfl rfl rfl)<| .c (DInv.at hE (k := 19) rfl rfl rfl)<| .n _) rfl ?_
        refine AWP.vc (s' := ⟨[(0,rW β1 a0 e63),(7,iW x_354.1),(8,bW x_354.2.1),(9,iW x_272.2.2),(10,iW x_354.2.2),(11,iW p_387),(13,iW t13_391)],[]⟩) (by subst ht13_391; exact VC.sub (.of rfl) (.n _)) ?_
        refine AWP.seq ?_
        refine AWP.rg (.cons (.move (l1 rfl) (.t rfl))<| .cons (.gtr (l1 rfl) (.t rfl) (.const _ _ _))<| .cons (.move (l1 rfl) (.t rfl))<| .guard (j := 2) (dj := 107) rfl (l1 rfl) rfl (l1 rfl) (fun hg => .move (l1 rfl) (.t rfl))<| .guard (j := 2) (dj := 107) rfl (l1 rfl) rfl (l1 rfl) (fun hg => .not (l1 rfl) (.gd hg (.t rfl)))<| .guard (j := 2) (dj := 107) rfl (l1 rfl) rfl (l1 rfl) (fun hg => .move (l1 rfl) (.gd hg (.t rfl)))<| .guard2 (j := 5) (dj := 110) rfl (l1 rfl) rfl (l1 rfl) (fun hg => .move (l1 rfl) (.t rfl))<| .guard2 (j := 5) (dj := 110) rfl (l1 rfl) rfl (l1 rfl) (fun hg => .move (l1 rfl) (.t rfl))<| .guard2 (j := 5) (dj := 110) rfl (l1 rfl) rfl (l1 rfl) (fun hg => .gtr (l1 rfl) (.gd hg (.t rfl)) (.gd hg (.t rfl)))<| .guard (j := 2) (dj := 107) rfl (l1 rfl) rfl (l1 rfl) (fun hg => .pickOr (l1 rfl) (.gd hg (.t rfl)) (.const _ _ _) (.gdAnd hg (.t rfl)))<| .cons (.pickAnd (l1 rfl) (.t rfl) (.t rfl) (.const _ _ _))<| .nil _ _ _) ?_
        refine AWP.vs ⟨[(0,rW β1 a0 e63),(7,iW x_354.1),(8,bW x_354.2.1),(9,iW x_272.2.2),(10,iW x_354.2.2),(13,iW t13_391),(115,bW ((decide ((0 : Int) < p_387)) && ((!x_354.2.1) || (decide (x_354.1 < t13_391)))))],[]⟩ rfl rfl ?_
        refine AWP.join' (S := fun p_392 : Int × Bool => ⟨[(0,rW β1 a0 e63),(7,iW p_392.1),(8,bW p_392.2),(9,iW x_272.2.2),(10,iW x_354.2.2)],[]⟩) h (fun p_392 h => ?_) (fun k_393 h => ?_)
        ·obtain ⟨t10_394,ht10_394,h⟩ := letS h
         refine AWP.rg (.cons (.move (l1 rfl) (.t rfl))<| .cons (.add (l1 rfl) (.t rfl) (.const _ _ _))<| .cons (.assign (l1 rfl) (.t rfl))<| .nil _ _ _) ?_
         exact endJ (p_392.1,p_392.2,t10_394) h (by subst ht10_394; exact VC.sub (.of rfl) (.n _))
        ·refine AWP.cond (.t rfl) (fun hc => ?_) (fun hc => ?_)
         ·have h := iteT hc h
          refine AWP.rg (.cons (.move (l1 rfl) (.t rfl))<| .cons (.assign (l1 rfl) (.t rfl))<| .cons (.assign (l1 rfl) (.const _ _ _))<| .nil _ _ _) ?_
          exact endJ (t13_391,true) h (VC.sub (.of rfl) (.n _))
         ·have h := iteF hc h
          refine AWP.skip ?_
          exact endJ (x_354.1,x_354.2.1) h (VC.sub (.of rfl) (.n _))
       ·refine AWP.vs ⟨[(0,rW β1 a0 e63),(7,iW x_354.1),(8,bW x_354.2.1),(9,iW x_272.2.2),(10,iW x_354.2.2),(11,iW (0 : Int)),(12,iW (0 : Int))],[]⟩ rfl rfl ?_
        refine AWP.loopM (S := fun x_376 : Int × Int => ⟨[(0,rW β1 a0 e63),(7,iW x_354.1),(8,bW x_354.2.1),(9,iW x_272.2.2),(10,iW x_354.2.2),(11,iW x_376.1),(12,iW x_376.2)],[]⟩) (x := ((0 : Int),(0 : Int))) (fun nx_377 x_376 h => ?_) h
        unfold m76_L14 at h
        refine AWP.seq ?_
        refine AWP.seq ?_
        refine AWP.rg (.cons (.move (l1 rfl) (.t rfl))<| .cons (.move (l1 rfl) (.t rfl))<| .cons (.lenRd (l1 rfl) (.t rfl) Tryz.underlying22)<| .cons (.lss (l1 rfl) (.t rfl) (.t rfl))<| .nil _ _ _) ?_
        refine AWP.vs ⟨[(0,rW β1 a0 e63),(7,iW x_354.1),(8,bW x_354.2.1),(9,iW x_272.2.2),(10,iW x_354.2.2),(11,iW x_376.1),(12,iW x_376.2),(58,bW (decide (x_376.2 < (a0.length : Int))))],[]⟩ rfl rfl ?_
        refine AWP.cond (.t rfl) (fun hc => ?_) (fun hc => ?_)
        ·have h := iteT hc h
         refine AWP.skip ?_
         refine AWP.seq ?_
         refine AWP.block ?_
         refine AWP.seq ?_
         obtain ⟨y_378,hy_378,h⟩ := bindS h
         obtain ⟨y_379,hy_379,h⟩ := bindS h
         obtain ⟨y_380,hy_380,h⟩ := bindS h
         obtain ⟨y_381,hy_381,h⟩ := bindS h
         refine AWP.draw (s' := ⟨[(0,rW β1 a0 e63),(7,iW x_354.1),(8,bW x_354.2.1),(9,iW x_272.2.2),(10,iW x_354.2.2),(11,iW x_376.1),(12,iW x_376.2),(84,bW ((decide (y_379.Rl ≤ y_378.Rl)) && (decide (y_380.Due ≤ y_381.Due))))],[]⟩) mixed [⟨0,rW β1 a0 e63,none,[]⟩,⟨7,iW x_354.1,none,[]⟩,⟨8,bW x_354.2.1,none,[]⟩,⟨9,iW x_272.2.2,none,[]⟩,⟨10,iW x_354.2.2,none,[]⟩,⟨11,iW x_376.1,none,[]⟩,⟨12,iW x_376.2,none,[]⟩,⟨58,bW (decide (x_376.2 < (a0.length : Int))),none,[]⟩,⟨61,rW β1 a0 e63,some 0,[]⟩,⟨62,iW x_376.2,some 1,[]⟩,⟨63,.rptr β1 [iW y_378.Rl,iW y_378.Ln,iW y_378.Due],some 2,[]⟩,⟨64,.rptr β1 [iW y_378.Rl,iW y_378.Ln,iW y_378.Due],some 3,[]⟩,⟨65,iW y_378.Rl,some 4,[]⟩,⟨66,rW β1 a0 e63,some 5,[]⟩,⟨67,iW x_272.2.2,some 6,[]⟩,⟨68,.rptr β1 [iW y_379.Rl,iW y_379.Ln,iW y_379.Due],some 7,[]⟩,⟨69,.rptr β1 [iW y_379.Rl,iW y_379.Ln,iW y_379.Due],some 8,[]⟩,⟨70,iW y_379.Rl,some 9,[]⟩,⟨71,bW (decide (y_379.Rl ≤ y_378.Rl)),some 10,[]⟩,⟨72,bW (decide (y_379.Rl ≤ y_378.Rl)),some 11,[]⟩,⟨73,.gd (decide (y_379.Rl ≤ y_378.Rl)) (rW β1 a0 e63),some 12,[]⟩,⟨74,.gd (decide (y_379.Rl ≤ y_378.Rl)) (iW x_376.2),some 13,[]⟩,⟨75,.gd (decide (y_379.Rl ≤ y_378.Rl)) (.rptr β1 [iW y_380.Rl,iW y_380.Ln,iW y_380.Due]),some 14,[]⟩,⟨76,.gd (decide (y_379.Rl ≤ y_378.Rl)) (.rptr β1 [iW y_380.Due]),some 15,[]⟩,⟨77,.gd (decide (y_379.Rl ≤ y_378.Rl)) (iW y_380.Due),some 16,[]⟩,⟨78,.gd (decide (y_379.Rl ≤ y_378.Rl)) (rW β1 a0 e63),some 17,[]⟩,⟨79,.gd (decide (y_379.Rl ≤ y_378.Rl)) (iW x_354.2.2),some 18,[]⟩,⟨80,.gd (decide (y_379.Rl ≤ y_378.Rl)) (.rptr β1 [iW y_381.Rl,iW y_381.Ln,iW y_381.Due]),some 19,[]⟩,⟨81,.gd (decide (y_379.Rl ≤ y_378.Rl)) (.rptr β1 [iW y_381.Due]),some 20,[]⟩,⟨82,.gd (decide (y_379.Rl ≤ y_378.Rl)) (iW y_381.Due),some 21,[]⟩,⟨83,.gd (decide (y_379.Rl ≤ y_378.Rl)) (bW (decide (y_380.Due ≤ y_381.Due))),some 22,[]⟩,⟨84,bW ((decide (y_379.Rl ≤ y_378.Rl)) && (decide (y_380.Due ≤ y_381.Due))),some 23,[]⟩] [⟨[0],0,0,some (61,rW β1 a0 e63),[]⟩,⟨[6],0,0,some (62,iW x_376.2),[]⟩,⟨[8,9],0,0,some (63,.rptr β1 [iW y_378.Rl,iW y_378.Ln,iW y_378.Due]),[]⟩,⟨[10],0,0,some (64,.rptr β1 [iW y_378.Rl,iW y_378.Ln,iW y_378.Due]),[]⟩,⟨[11],0,0,some (65,iW y_378.Rl),[]⟩,⟨[0],0,0,some (66,rW β1 a0 e63),[]⟩,⟨[3],0,0,some (67,iW x_272.2.2),[]⟩,⟨[13,14],0,0,some (68,.rptr β1 [iW y_379.Rl,iW y_379.Ln,iW y_379.Due]),[]⟩,⟨[15],0,0,some (69,.rptr β1 [iW y_379.Rl,iW y_379.Ln,iW y_379.Due]),[]⟩,⟨[16],0,0,some (70,iW y_379.Rl),[]⟩,⟨[12,17],0,0,some (71,bW (decide (y_379.Rl ≤ y_378.Rl))),[]⟩,⟨[18],0,0,some (72,bW (decide (y_379.Rl ≤ y_378.Rl))),[]⟩,⟨[19,0],0,0,some (73,.gd (decide (y_379.Rl ≤ y_378.Rl)) (rW β1 a0 e63)),[]⟩,⟨[19,6],0,0,some (74,.gd (decide (y_379.Rl ≤ y_378.Rl)) (iW x_376.2)),[]⟩,⟨[19,20,21],0,0,some (75,.gd (decide (y_379.Rl ≤ y_378.Rl)) (.rptr β1 [iW y_380.Rl,iW y_380.Ln,iW y_380.Due])),[]⟩,⟨[19,22],0,0,some (76,.gd (decide (y_379.Rl ≤ y_378.Rl)) (.rptr β1 [iW y_380.Due])),[]⟩,⟨[19,23],0,0,some (77,.gd (decide (y_379.Rl ≤ y_378.Rl)) (iW y_380.Due)),[]⟩,⟨[19,0],0,0,some (78,.gd (decide (y_379.Rl ≤ y_378.Rl)) (rW β1 a0 e63)),[]⟩,⟨[19,4],0,0,some (79,.gd (decide (y_379.Rl ≤ y_378.Rl)) (iW x_354.2.2)),[]⟩,⟨[19,25,26],0,0,some (80,.gd (decide (y_379.Rl ≤ y_378.Rl)) (.rptr β1 [iW y_381.Rl,iW y_381.Ln,iW y_381.Due])),[]⟩,⟨[19,27],0,0,some (81,.gd (decide (y_379.Rl ≤ y_378.Rl)) (.rptr β1 [iW y_381.Due])),[]⟩,⟨[19,28],0,0,some (82,.gd (decide (y_379.Rl ≤ y_378.Rl)) (iW y_381.Due)),[]⟩,⟨[19,24,29],0,0,some (83,.gd (decide (y_379.Rl ≤ y_378.Rl)) (bW (decide (y_380.Due ≤ y_381.Due)))),[]⟩,⟨[19,30],0,0,some (84,bW ((decide (y_379.Rl ≤ y_378.Rl)) && (decide (y_380.Due ≤ y_381.Due)))),[]⟩] [] [[]] [[],[],[0,1],[0,1,2],[0,1,2,3],[],[],[5,6],[5,6,7],[5,6,7,8],[0,1,2,3,4,5,6,7,8,9],[0,1,2,3,4,5,6,7,8,9,10],[0,1,2,3,4,5,6,7,8,9,10,11],[0,1,2,3,4,5,6,7,8,9,10,11],[0,1,2,3,4,5,6,7,8,9,10,11,12,13],[0,1,2,3,4,5,6,7,8,9,10,11,12,13,14],[0,1,2,3,4,5,6,7,8,9,10,11,12,13,14,15],[0,1,2,3,4,5,6,7,8,9,10,11],[0,1,2,3,4,5,6,7,8,9,10,11],[0,1,2,3,4,5,6,7,8,9,10,11,17,18],[0,1,2,3,4,5,6,7,8,9,10,11,17,18,19],[0,1,2,3,4,5,6,7,8,9,10,11,17,18,19,20],[0,1,2,3,4,5,6,7,8,9,10,11,12,13,14,15,16,17,18,19,20,21],[0,1,2,3,4,5,6,7,8,9,10,11,12,13,14,15,16,17,18,19,20,21,22]] (by kernel_rfl) (by kernel_rfl) (BornL.ok (.o<| .o<| .o<| .o<| .o<| .o<| .o<| .o<| .b rfl rfl<| .b rfl rfl<| .b rfl rfl<| .b rfl rfl<| .b rfl rfl<| .b rfl rfl<| .b rfl rfl<| .b rfl rfl<| .b rfl rfl<| .b rfl rfl<| .b rfl rfl<| .b rfl rfl<| .b rfl rfl<| .b rfl rfl<| .b rfl rfl<| .b rfl rfl<| .b rfl rfl<| .b rfl rfl<| .b rfl rfl<| .b rfl rfl<| .b rfl rfl<| .b rfl rfl<| .b rfl rfl<| .b rfl rfl<| .n)) (BaseL.ok (.o rfl<| .o rfl<| .o rfl<| .o rfl<| .o rfl<| .o rfl<| .o rfl<| .o rfl<| .b<| .b<| .b<| .b<| .b<| .b<| .b<| .b<| .b<| .b<| .b<| .b<| .b<| .b<| .b<| .b<| .b<| .b<| .b<| .b<| .b<| .b<| .b<| .b<| .n)) rfl (by decide) (allLt rfl) (.pure rfl (fun H => .put (fun E hE => .move (l1 rfl) (hE.t 0 rfl)))<| .pure rfl (fun H => .put (fun E hE => .move (l1 rfl) (hE.t 0 rfl)))<| .pure rfl (fun H => .put (fun E hE => .indexRd (enc := e63) (l1 rfl) (hE.t 0 rfl) (hE.t 1 rfl) Tryz.underlying22 sz79 encR63_len rfl hy_378))<| .pure rfl (fun H => .put (fun E hE => .fieldR (l1 rfl) (hE.t 0 rfl) fld79_0 rfl))<| .pure rfl (fun H => .put (fun E hE => .loadR (v := iW y_378.Rl) (l1 rfl) (hE.t 0 rfl) one3 rfl))<| .pure rfl (fun H => .put (fun E hE => .move (l1 rfl) (hE.t 0 rfl)))<| .pure rfl (fun H => .put (fun E hE => .move (l1 rfl) (hE.t 0 rfl)))<| .pure rfl (fun H => .put (fun E hE => .indexRd (enc := e63) (l1 rfl) (hE.t 0 rfl) (hE.t 1 rfl) Tryz.underlying22 sz79 encR63_len rfl hy_379))<| .pure rfl (fun H => .put (fun E hE => .fieldR (l1 rfl) (hE.t 0 rfl) fld79_0 rfl))<| .pure rfl (fun H => .put (fun E hE => .loadR (v := iW y_379.Rl) (l1 rfl) (hE.t 0 rfl) one3 rfl))<| .pure rfl (fun H => .put (fun E hE => .geq (l1 rfl) (hE.t 0 rfl) (hE.t 1 rfl)))<| .pure rfl (fun H => .put (fun E hE => .move (l1 rfl) (hE.t 0 rfl)))<| .pure rfl (fun H => .gput (b := (decide (y_379.Rl ≤ y_378.Rl))) (want := true) (j := 11) (dj := 72) rfl (l1 rfl) (l1 rfl) (fun E hE => hE.at (k := 0) rfl) (fun hg E hE => .move (l1 rfl) (hE.t 1 rfl)))<| .pure rfl (fun H => .gput (b := (decide (y_379.Rl ≤ y_378.Rl))) (want := true) (j := 11) (dj := 72) rfl (l1 rfl) (l1 rfl) (fun E hE => hE.at (k := 0) rfl) (fun hg E hE => .move (l1 rfl) (hE.t 1 rfl)))<| .pure rfl (fun H => .gput (b := (decide (y_379.Rl ≤ y_378.Rl))) (want := true) (j := 11) (dj := 72) rfl (l1 rfl) (l1 rfl) (fun E hE => hE.at (k := 0) rfl) (fun hg E hE => .indexRd (enc := e63) (l1 rfl) (.gd hg (hE.t 1 rfl)) (.gd hg (hE.t 2 rfl)) Tryz.underlying22 sz79 encR63_len rfl (gdB hy_380 hg)))<| .pure rfl (fun H => .gput (b := (decide (y_379.Rl ≤ y_378.Rl))) (want := true) (j := 11) (dj := 72) rfl (l1 rfl) (l1 rfl) (fun E hE => hE.at (k := 0) rfl) (fun hg E hE => .fieldR (sub := [iW y_380.Due]) (l1 rfl) (.gd hg (hE.t 1 rfl)) fld79_2 rfl))<| .pure rfl (fun H => .gput (b := (decide (y_379.Rl ≤ y_378.Rl))) (want := true) (j := 11) (dj := 72) rfl (l1 rfl) (l1 rfl) (fun E hE => hE.at (k := 0) rfl) (fun hg E hE => .loadR (v := iW y_380.Due) (l1 rfl) (.gd hg (hE.t 1 rfl)) one3 rfl))<| .pure rfl (fun H => .gput (b := (decide (y_379.Rl ≤ y_378.Rl))) (want := true) (j := 11) (dj := 72) rfl (l1 rfl) (l1 rfl) (fun E hE => hE.at (k := 0) rfl) (fun hg E hE => .move (l1 rfl) (hE.t 1 rfl)))<| .pure rfl (fun H => .gput (b := (decide (y_379.Rl ≤ y_378.Rl))) (want := true) (j := 11) (dj := 72) rfl (l1 rfl) (l1 rfl) (fun E hE => hE.at (k := 0) rfl) (fun hg E hE => .move (l1 rfl) (hE.t 1 rfl)))<| .pure rfl (fun H => .gput (b := (decide (y_379.Rl ≤ y_378.Rl))) (want := true) (j := 11) (dj := 72) rfl (l1 rfl) (l1 rfl) (fun E hE => hE.at (k := 0) rfl) (fun hg E hE => .indexRd (enc := e63) (l1 rfl) (.gd hg (hE.t 1 rfl)) (.gd hg (hE.t 2 rfl)) Tryz.underlying22 sz79 encR63_len rfl (gdB hy_381 hg)))<| .pure rfl (fun H => .gput (b := (decide (y_379.Rl ≤ y_378.Rl))) (want := true) (j := 11) (dj := 72) rfl (l1 rfl) (l1 rfl) (fun E hE => hE.at (k := 0) rfl) (fun hg E hE => .fieldR (sub := [iW y_381.Due]) (l1 rfl) (.gd hg (hE.t 1 rfl)) fld79_2 rfl))<| .pure rfl (fun H => .gput (b := (decide (y_379.Rl ≤ y_378.Rl))) (want := true) (j := 11) (dj := 72) rfl (l1 rfl) (l1 rfl) (fun E hE => hE.at (k := 0) rfl) (fun hg E hE => .loadR (v := iW y_381.Due) (l1 rfl) (.gd hg (hE.t 1 rfl)) one3 rfl))<| .pure rfl (fun H => .gput (b := (decide (y_379.Rl ≤ y_378.Rl))) (want := true) (j := 11) (dj := 72) rfl (l1 rfl) (l1 rfl) (fun E hE => hE.at (k := 0) rfl) (fun hg E hE => .leq (l1 rfl) (.gd hg (hE.t 1 rfl)) (.gd hg (hE.t 2 rfl))))<| .pure rfl (fun H => .put (fun E hE => .pickAnd (l1 rfl) (hE.t 0 rfl) (hE.t 1 rfl) (.const _ _ _)))<| .nil _) (fun E hE => .c (DInv.at hE (k := 0) rfl rfl rfl)<| .c (DInv.at hE (k := 1) rfl rfl rfl)<| .c (DInv.at hE (k := 2) rfl rfl rfl)<| .c (DInv.at hE (k := 3) rfl rfl rfl)<| .c (DInv.at hE (k := 4) rfl rfl rfl)<| .c (DInv.at hE (k := 5) rfl rfl rfl)<| .c (DInv.at hE (k := 6) rfl rfl rfl)<| .c (DInv.at hE (k := 31) rfl rfl rfl)<| .n _) rfl ?_
         refine AWP.vs ⟨[(0,rW β1 a0 e63),(7,iW x_354.1),(8,bW x_354.2.1),(9,iW x_272.2.2),(10,iW x_354.2.2),(11,iW x_376.1),(12,iW x_376.2),(84,bW ((decide (y_379.Rl ≤ y_378.Rl)) && (decide (y_380.Due ≤ y_381.Due))))],[]⟩ rfl rfl ?_
         refine AWP.join' (S := fun p_384 : Int => ⟨[(0,rW β1 a0 e63),(7,iW x_354.1),(8,bW x_354.2.1),(9,iW x_272.2.2),(10,iW x_354.2.2),(11,iW p_384),(12,iW x_376.2)],[]⟩) h (fun p_384 h => ?_) (fun k_385 h => ?_)
         ·obtain ⟨t12_386,ht12_386,h⟩ := letS h
          refine AWP.rg (.cons (.move (l1 rfl) (.t rfl))<| .cons (.add (l1 rfl) (.t rfl) (.const _ _ _))<| .cons (.assign (l1 rfl) (.t rfl))<| .nil _ _ _) ?_
          exact endJ (p_384,t12_386) h (by subst ht12_386; exact VC.sub (.of rfl) (.n _))
         ·refine AWP.cond (.t rfl) (fun hc => ?_) (fun hc => ?_)
          ·have h := iteT hc h
           obtain ⟨y_382,hy_382,h⟩ := bindS h
           obtain ⟨t11_383,ht11_383,h⟩ := letS h
           refine AWP.rg (.cons (.move (l1 rfl) (.t rfl))<| .cons (.move (l1 rfl) (.t rfl))<| .cons (.move (l1 rfl) (.t rfl))<| .cons (.indexRd (enc := e63) (l1 rfl) (.t rfl) (.t rfl) Tryz.underlying22 sz79 encR63_len rfl hy_382)<| .cons (.fieldR (l1 rfl) (.t rfl) fld79_1 rfl)<| .cons (.loadR (v := iW y_382.Ln) (l1 rfl) (.t rfl) one3 rfl)<| .cons (.add (l1 rfl) (.t rfl) (.t rfl))<| .cons (.assign (l1 rfl) (.t rfl))<| .nil _ _ _) ?_
           exact endJ t11_383 h (by subst ht11_383; exact VC.sub (.of rfl) (.n _))
          ·have h := iteF hc h
           refine AWP.skip ?_
           exact endJ x_376.1 h (VC.sub (.of rfl) (.n _))
        ·have h := iteF hc h
         refine AWP.exit ?_
         exact endJ x_376.1 h (VC.sub (.of rfl) (.n _))
      ·have h := iteF hc h
       refine AWP.exit ?_
       exact endJ (x_354.1,x_354.2.1) h (VC.sub (.of rfl) (.n _))
    ·have h := iteF hc h
     refine AWP.exit ?_
     exact endJ x_272.1 h (VC.sub (.of rfl) (.n _))
  ·have h := iteF hc h
   refine AWP.skip ?_
   refine AWP.seq ?_
   refine AWP.rg (.cons (.assign (l1 rfl) (.const _ _ _))<| .nil _ _ _) ?_
   refine AWP.vs ⟨[(0,rW β1 a0 e63),(5,iW p_20),(7,iW (0 : Int)),(14,.sc (.slice none 0 0))],[]⟩ rfl rfl ?_
   refine AWP.seq ?_
   refine AWP.rg (.cons (.assign (l1 rfl) (.const _ _ _))<| .nil _ _ _) ?_
   refine AWP.vs ⟨[(0,rW β1 a0 e63),(5,iW p_20),(7,iW (0 : Int)),(14,.sc (.slice none 0 0)),(15,.sc (.slice none 0 0))],[]⟩ rfl rfl ?_
   refine AWP.seq ?_
   refine AWP.seq ?_
   refine AWP.rg (.cons (.assign (l1 rfl) (.const _ _ _))<| .nil _ _ _) ?_
   refine AWP.vs ⟨[(0,rW β1 a0 e63),(5,iW p_20),(7,iW (0 : Int)),(14,.sc (.slice none 0 0)),(15,.sc (.slice none 0 0)),(16,iW (0 : Int))],[]⟩ rfl rfl ?_
   refine AWP.joinB' (S := fun p_422 : (List R63) × (List Int) => ⟨[(5,iW p_20),(7,iW (0 : Int)),(14,.own 1 3 0 p_422.1.length),(15,.own 2 1 0 p_422.2.length)],[(1,⟨79,true,p_422.1.flatMap e63⟩),(2,⟨3,true,p_422.2.flatMap eW⟩)]⟩) h (fun p_422 h => ?_) (fun k_423 h => ?_)
   ·refine AWP.seq ?_
    obtain ⟨y_424,hy_424,h⟩ := bindS h
    refine AWP.rg (.cons (.move (l1 rfl) (.t rfl))<| .cons (.call0 (bw := true) (l1 rfl) (c88 (β1 := true) n p_422.1 hy_424) (.cons (.t rfl) (.lendRow rfl rfl encR63_len rfl) (.nil)) rfl)<| .cons (.move (l1 rfl) (.t rfl))<| .cons (.extract (l1 rfl) (.t rfl) rfl)<| .cons (.extract (l1 rfl) (.t rfl) rfl)<| .cons (.assign (l1 rfl) (.t rfl))<| .cons (.assign (l1 rfl) (.t rfl))<| .nil _ _ _) ?_
    refine AWP.vs ⟨[(5,iW p_20),(7,iW (0 : Int)),(15,.own 2 1 0 p_422.2.length),(17,rW false y_424.1 eW)],[(2,⟨3,true,p_422.2.flatMap eW⟩)]⟩ rfl rfl ?_
    refine AWP.seq ?_
    obtain ⟨y_425,hy_425,h⟩ := bindS h
    refine AWP.rg (.cons (.move (l1 rfl) (.t rfl))<| .cons (.call0 (bw := true) (l1 rfl) (c89 (β1 := true) n p_422.2 hy_425) (.cons (.t rfl) (.lendRow rfl rfl (encI_len .i64) rfl) (.nil)) rfl)<| .cons (.assign (l1 rfl) (.t rfl))<| .nil _ _ _) ?_
    refine AWP.vs ⟨[(5,iW p_20),(7,iW (0 : Int)),(15,rW false y_425 eW),(17,rW false y_424.1 eW)],[]⟩ rfl rfl ?_
    refine AWP.seq ?_
    refine AWP.seq ?_
    refine AWP.rg (.cons (.assign (l1 rfl) (.const _ _ _))<| .nil _ _ _) ?_
    refine AWP.vs ⟨[(5,iW p_20),(7,iW (0 : Int)),(15,rW false y_425 eW),(17,rW false y_424.1 eW),(19,iW (0 : Int))],[]⟩ rfl rfl ?_
    refine AWP.joinB' (S := fun p_442 : Int => ⟨[(7,iW p_442)],[]⟩) h (fun p_442 h => ?_) (fun k_443 h => ?_)
    ·refine AWP.seq ?_
     refine AWP.rg (.cons (.move (l1 rfl) (.t rfl))<| .cons (.assign (l1 rfl) (.t rfl))<| .nil _ _ _) ?_
     refine AWP.ret ?_
     obtain rfl := Option.some.inj h
     refine retJ (Res.vc (s' := ⟨[(4,iW p_442)],[]⟩) (VC.sub (.of rfl) (.n _)) ?_)
     refine Res.drop (H := []) rfl ?_
     exact Res.of rfl (.cons (.tmp rfl) (.nil)) rfl rfl
    ·refine AWP.vs ⟨[(5,iW p_20),(7,iW (0 : Int)),(15,rW false y_425 eW),(17,rW false y_424.1 eW),(19,iW (0 : Int))],[]⟩ rfl rfl ?_
     refine AWP.loopM (S := fun x_436 : Int × Int => ⟨[(5,iW p_20),(7,iW x_436.1),(15,rW false y_425 eW),(17,rW false y_424.1 eW),(19,iW x_436.2)],[]⟩) (x := ((0 : Int),(0 : Int))) (fun nx_437 x_436 h => ?_) h
     unfold m76_L16 at h
     refine AWP.seq ?_
     refine AWP.seq ?_
     refine AWP.rg (.cons (.move (l1 rfl) (.t rfl))<| .cons (.move (l1 rfl) (.t rfl))<| .cons (.lenRd (l1 rfl) (.t rfl) Tryz.underlying23)<| .cons (.lss (l1 rfl) (.t rfl) (.t rfl))<| .nil _ _ _) ?_
     refine AWP.vs ⟨[(5,iW p_20),(7,iW x_436.1),(15,rW false y_425 eW),(17,rW false y_424.1 eW),(19,iW x_436.2),(158,bW (decide (x_436.2 < (y_424.1.length : Int))))],[]⟩ rfl rfl ?_
     refine AWP.cond (.t rfl) (fun hc => ?_) (fun hc => ?_)
     ·have h := iteT hc h
      refine AWP.skip ?_
      refine AWP.seq ?_
      refine AWP.block ?_
      obtain ⟨y_438,hy_438,h⟩ := bindS h
      obtain ⟨y_439,hy_439,h⟩ := bindS h
      obtain ⟨t7_440,ht7_440,h⟩ := letS h
      refine AWP.draw (s' := ⟨[(5,iW p_20),(7,iW (IntKind.wrap .i64 (x_436.1 + (if (IntKind.wrap .i64 ((IntKind.wrap .i64 (y_438 + p_20)) - y_439)) > (0 : Int) then (IntKind.wrap .i64 ((IntKind.wrap .i64 (y_438 + p_20)) - y_439)) else (0 : Int))))),(15,rW false y_425 eW),(17,rW false y_424.1 eW),(19,iW x_436.2)],[]⟩) mixed [⟨5,iW p_20,none,[]⟩,⟨7,iW x_436.1,none,[14]⟩,⟨15,rW false y_425 eW,none,[]⟩,⟨17,rW false y_424.1 eW,none,[]⟩,⟨19,iW x_436.2,none,[]⟩,⟨158,bW (decide (x_436.2 < (y_424.1.length : Int))),none,[]⟩,⟨161,iW x_436.1,some 0,[]⟩,⟨162,rW false y_424.1 eW,some 1,[]⟩,⟨163,iW x_436.2,some 2,[]⟩,⟨164,.rptr false [iW y_438],some 3,[]⟩,⟨165,iW y_438,some 4,[]⟩,⟨166,iW p_20,some 5,[]⟩,⟨167,iW (IntKind.wrap .i64 (y_438 + p_20)),some 6,[]⟩,⟨168,rW false y_425 eW,some 7,[]⟩,⟨169,iW x_436.2,some 8,[]⟩,⟨170,.rptr false [iW y_439],some 9,[]⟩,⟨171,iW y_439,some 10,[]⟩,⟨172,iW (IntKind.wrap .i64 ((IntKind.wrap .i64 (y_438 + p_20)) - y_439)),some 11,[]⟩,⟨173,iW (if (IntKind.wrap .i64 ((IntKind.wrap .i64 (y_438 + p_20)) - y_439)) > (0 : Int) then (IntKind.wrap .i64 ((IntKind.wrap .i64 (y_438 + p_20)) - y_439)) else (0 : Int)),some 12,[]⟩,⟨174,iW (IntKind.wrap .i64 (x_436.1 + (if (IntKind.wrap .i64 ((IntKind.wrap .i64 (y_438 + p_20)) - y_439)) > (0 : Int) then (IntKind.wrap .i64 ((IntKind.wrap .i64 (y_438 + p_20)) - y_439)) else (0 : Int)))),some 13,[]⟩,⟨7,iW (IntKind.wrap .i64 (x_436.1 + (if (IntKind.wrap .i64 ((IntKind.wrap .i64 (y_438 + p_20)) - y_439)) > (0 : Int) then (IntKind.wrap .i64 ((IntKind.wrap .i64 (y_438 + p_20)) - y_439)) else (0 : Int)))),some 14,[]⟩] [⟨[1],0,0,some (161,iW x_436.1),[]⟩,⟨[3],0,0,some (162,rW false y_424.1 eW),[]⟩,⟨[4],0,0,some (163,iW x_436.2),[]⟩,⟨[7,8],0,0,some (164,.rptr false [iW y_438]),[]⟩,⟨[9],0,0,some (165,iW y_438),[]⟩,⟨[0],0,0,some (166,iW p_20),[]⟩,⟨[10,11],0,0,some (167,iW (IntKind.wrap .i64 (y_438 + p_20))),[]⟩,⟨[2],0,0,some (168,rW false y_425 eW),[]⟩,⟨[4],0,0,some (169,iW x_436.2),[]⟩,⟨[13,14],0,0,some (170,.rptr false [iW y_439]),[]⟩,⟨[15],0,0,some (171,iW y_439),[]⟩,⟨[12,16],0,0,some (172,iW (IntKind.wrap .i64 ((IntKind.wrap .i64 (y_438 + p_20)) - y_439))),[]⟩,⟨[17],0,0,some (173,iW (if (IntKind.wrap .i64 ((IntKind.wrap .i64 (y_438 + p_20)) - y_439)) > (0 : Int) then (IntKind.wrap .i64 ((IntKind.wrap .i64 (y_438 + p_20)) - y_439)) else (0 : Int))),[]⟩,⟨[6,18],0,0,some (174,iW (IntKind.wrap .i64 (x_436.1 + (if (IntKind.wrap .i64 ((IntKind.wrap .i64 (y_438 + p_20)) - y_439)) > (0 : Int) then (IntKind.wrap .i64 ((IntKind.wrap .i64 (y_438 + p_20)) - y_439)) else (0 : Int))))),[]⟩,⟨[19],0,0,some (7,iW (IntKind.wrap .i64 (x_436.1 + (if (IntKind.wrap .i64 ((IntKind.wrap .i64 (y_438 + p_20)) - y_439)) > (0 : Int) then (IntKind.wrap .i64 ((IntKind.wrap .i64 (y_438 + p_20)) - y_439)) else (0 : Int))))),[]⟩] [] [[]] [[],[],[],[1,2],[1,2,3],[],[1,2,3,4,5],[],[],[7,8],[7,8,9],[1,2,3,4,5,6,7,8,9,10],[1,2,3,4,5,6,7,8,9,10,11],[0,1,2,3,4,5,6,7,8,9,10,11,12],[0,1,2,3,4,5,6,7,8,9,10,11,12,13]] (by kernel_rfl) (by kernel_rfl) (BornL.ok (.o<| .o<| .o<| .o<| .o<| .o<| .b rfl rfl<| .b rfl rfl<| .b rfl rfl<| .b rfl rfl<| .b rfl rfl<| .b rfl rfl<| .b rfl rfl<| .b rfl rfl<| .b rfl rfl<| .b rfl rfl<| .b rfl rfl<| .b rfl rfl<| .b rfl rfl<| .b rfl rfl<| .b rfl rfl<| .n)) (BaseL.ok (.o rfl<| .o rfl<| .o rfl<| .o rfl<| .o rfl<| .o rfl<| .b<| .b<| .b<| .b<| .b<| .b<| .b<| .b<| .b<| .b<| .b<| .b<| .b<| .b<| .b<| .n)) rfl (by decide) (allLt rfl) (.pure rfl (fun H => .put (fun E hE => .move (l1 rfl) (hE.t 0 rfl)))<| .pure rfl (fun H => .put (fun E hE => .move (l1 rfl) (hE.t 0 rfl)))<| .pure rfl (fun H => .put (fun E hE => .move (l1 rfl) (hE.t 0 rfl)))<| .pure rfl (fun H => .put (fun E hE => .indexRd (enc := eW) (l1 rfl) (hE.t 0 rfl) (hE.t 1 rfl) Tryz.underlying23 sz3 (encI_len .i64) rfl hy_438))<| .pure rfl (fun H => .put (fun E hE => .loadR (v := iW y_438) (l1 rfl) (hE.t 0 rfl) one3 rfl))<| .pure rfl (fun H => .put (fun E hE => .move (l1 rfl) (hE.t 0 rfl)))<| .pure rfl (fun H => .put (fun E hE => .add (l1 rfl) (hE.t 0 rfl) (hE.t 1 rfl)))<| .pure rfl (fun H => .put (fun E hE => .move (l1 rfl) (hE.t 0 rfl)))<| .pure rfl (fun H => .put (fun E hE => .move (l1 rfl) (hE.t 0 rfl)))<| .pure rfl (fun H => .put (fun E hE => .indexRd (enc := eW) (l1 rfl) (hE.t 0 rfl) (hE.t 1 rfl) Tryz.underlying23 sz3 (encI_len .i64) rfl hy_439))<| .pure rfl (fun H => .put (fun E hE => .loadR (v := iW y_439) (l1 rfl) (hE.t 0 rfl) one3 rfl))<| .pure rfl (fun H => .put (fun E hE => .sub (l1 rfl) (hE.t 0 rfl) (hE.t 1 rfl)))<| .pure rfl (fun H => .put (fun E hE => .max2 (l1 rfl) (.const _ _ _) (hE.t 0 rfl)))<| .pure rfl (fun H => .put (fun E hE => .add (l1 rfl) (hE.t 0 rfl) (hE.t 1 rfl)))<| .pure rfl (fun H => .put (fun E hE => .assign (l1 rfl) (hE.t 0 rfl)))<| .nil _) (fun E hE => .c (DInv.at hE (k := 0) rfl rfl rfl)<| .c (DInv.at hE (k := 20) rfl rfl rfl)<| .c (DInv.at hE (k := 2) rfl rfl rfl)<| .c (DInv.at hE (k := 3) rfl rfl rfl)<| .c (DInv.at hE (k := 4) rfl rfl rfl)<| .n _) rfl ?_
      refine AWP.vc (s' := ⟨[(5,iW p_20),(7,iW t7_440),(15,rW false y_425 eW),(17,rW false y_424.1 eW),(19,iW x_436.2)],[]⟩) (by subst ht7_440; exact VC.sub (.of rfl) (.n _)) ?_
      obtain ⟨t19_441,ht19_441,h⟩ := letS h
      refine AWP.rg (.cons (.move (l1 rfl) (.t rfl))<| .cons (.add (l1 rfl) (.t rfl) (.const _ _ _))<| .cons (.assign (l1 rfl) (.t rfl))<| .nil _ _ _) ?_
      exact endJ (t7_440,t19_441) h (by subst ht19_441; exact VC.sub (.of rfl) (.n _))
     ·have h := iteF hc h
      refine AWP.exit ?_
      exact endJ x_436.1 h (VC.sub (.of rfl) (.n _))
   ·refine AWP.vc (VC.nilOwn (d := 14) (t := 1) (sz := 3) (E := 79) rfl (nm rfl)) ?_
    refine AWP.vc (VC.nilOwn (d := 15) (t := 2) (sz := 1) (E := 3) rfl (nm rfl)) ?_
    refine AWP.vs ⟨[(0,rW β1 a0 e63),(5,iW p_20),(7,iW (0 : Int)),(14,.own 1 3 0 ([] : List R63).length),(15,.own 2 1 0 ([] : List Int).length),(16,iW (0 : Int))],[(1,⟨79,true,([] : List R63).flatMap e63⟩),(2,⟨3,true,([] : List Int).flatMap eW⟩)]⟩ rfl rfl ?_
    refine AWP.loopM (S := fun x_414 : Int × (List R63) × (List Int) => ⟨[(0,rW β1 a0 e63),(5,iW p_20),(7,iW (0 : Int)),(14,.own 1 3 0 x_414.2.1.length),(15,.own 2 1 0 x_414.2.2.length),(16,iW x_414.1)],[(1,⟨79,true,x_414.2.1.flatMap e63⟩),(2,⟨3,true,x_414.2.2.flatMap eW⟩)]⟩) (x := ((0 : Int),([] : List R63),([] : List Int))) (fun nx_415 x_414 h => ?_) h
    unfold m76_L15 at h
    refine AWP.seq ?_
    refine AWP.seq ?_
    refine AWP.rg (.cons (.move (l1 rfl) (.t rfl))<| .cons (.move (l1 rfl) (.t rfl))<| .cons (.lenRd (l1 rfl) (.t rfl) Tryz.underlying22)<| .cons (.lss (l1 rfl) (.t rfl) (.t rfl))<| .nil _ _ _) ?_
    refine AWP.vs ⟨[(0,rW β1 a0 e63),(5,iW p_20),(7,iW (0 : Int)),(14,.own 1 3 0 x_414.2.1.length),(15,.own 2 1 0 x_414.2.2.length),(16,iW x_414.1),(121,bW (decide (x_414.1 < (a0.length : Int))))],[(1,⟨79,true,x_414.2.1.flatMap e63⟩),(2,⟨3,true,x_414.2.2.flatMap eW⟩)]⟩ rfl rfl ?_
    refine AWP.cond (.t rfl) (fun hc => ?_) (fun hc => ?_)
    ·have h := iteT hc h
     refine AWP.skip ?_
     refine AWP.seq ?_
     refine AWP.block ?_
     refine AWP.seq ?_
     obtain ⟨y_416,hy_416,h⟩ := bindS h
     obtain ⟨y_417,hy_417,h⟩ := bindS h
     obtain ⟨l1_418,hl1_418,h⟩ := bindS h
     refine AWP.draw (s' := ⟨[(0,rW β1 a0 e63),(5,iW p_20),(7,iW (0 : Int)),(14,.own 1 3 0 l1_418.length),(15,.own 2 1 0 x_414.2.2.length),(16,iW x_414.1)],[(1,⟨79,true,l1_418.flatMap e63⟩),(2,⟨3,true,x_414.2.2.flatMap eW⟩)]⟩) mixed [⟨0,rW β1 a0 e63,none,[]⟩,⟨5,iW p_20,none,[]⟩,⟨7,iW (0 : Int),none,[]⟩,⟨14,.own 1 3 0 x_414.2.1.length,none,[15,16]⟩,⟨15,.own 2 1 0 x_414.2.2.length,none,[]⟩,⟨16,iW x_414.1,none,[]⟩,⟨121,bW (decide (x_414.1 < (a0.length : Int))),none,[]⟩,⟨124,.own 1 3 0 x_414.2.1.length,some 0,[15]⟩,⟨125,rW β1 a0 e63,some 1,[]⟩,⟨126,iW x_414.1,some 2,[]⟩,⟨127,.rptr β1 [iW y_416.Rl,iW y_416.Ln,iW y_416.Due],some 3,[]⟩,⟨128,.rptr β1 [iW y_416.Rl,iW y_416.Ln,iW y_416.Due],some 4,[]⟩,⟨129,iW y_416.Rl,some 5,[]⟩,⟨130,iW p_20,some 6,[]⟩,⟨131,iW (IntKind.wrap .i64 (y_416.Rl - p_20)),some 7,[]⟩,⟨132,rW β1 a0 e63,some 8,[]⟩,⟨133,iW x_414.1,some 9,[]⟩,⟨134,.rptr β1 [iW y_417.Rl,iW y_417.Ln,iW y_417.Due],some 10,[]⟩,⟨135,.rptr β1 [iW y_417.Ln,iW y_417.Due],some 11,[]⟩,⟨136,iW y_417.Ln,some 12,[]⟩,⟨137,.agg [iW (IntKind.wrap .i64 (y_416.Rl - p_20)),iW y_417.Ln,iW (0 : Int)],some 13,[]⟩,⟨138,rW false ([(R63.mk (IntKind.wrap .i64 (y_416.Rl - p_20)) y_417.Ln (0 : Int))] : List R63) e63,some 14,[]⟩,⟨139,.own 1 3 0 l1_418.length,some 15,[]⟩,⟨14,.own 1 3 0 l1_418.length,some 16,[]⟩] [⟨[3],0,0,some (124,.own 1 3 0 x_414.2.1.length),[]⟩,⟨[0],0,1,some (125,rW β1 a0 e63),[]⟩,⟨[5],0,1,some (126,iW x_414.1),[]⟩,⟨[8,9],0,1,some (127,.rptr β1 [iW y_416.Rl,iW y_416.Ln,iW y_416.Due]),[]⟩,⟨[10],0,1,some (128,.rptr β1 [iW y_416.Rl,iW y_416.Ln,iW y_416.Due]),[]⟩,⟨[11],0,1,some (129,iW y_416.Rl),[]⟩,⟨[1],0,1,some (130,iW p_20),[]⟩,⟨[12,13],0,1,some (131,iW (IntKind.wrap .i64 (y_416.Rl - p_20))),[]⟩,⟨[0],0,1,some (132,rW β1 a0 e63),[]⟩,⟨[5],0,1,some (133,iW x_414.1),[]⟩,⟨[15,16],0,1,some (134,.rptr β1 [iW y_417.Rl,iW y_417.Ln,iW y_417.Due]),[]⟩,⟨[17],0,1,some (135,.rptr β1 [iW y_417.Ln,iW y_417.Due]),[]⟩,⟨[18],0,1,some (136,iW y_417.Ln),[]⟩,⟨[14,19],0,1,some (137,.agg [iW (IntKind.wrap .i64 (y_416.Rl - p_20)),iW y_417.Ln,iW (0 : Int)]),[]⟩,⟨[20],0,1,some (138,rW false ([(R63.mk (IntKind.wrap .i64 (y_416.Rl - p_20)) y_417.Ln (0 : Int))] : List R63) e63),[]⟩,⟨[7,21],0,0,some (139,.own 1 3 0 l1_418.length),[1]⟩,⟨[22],1,1,some (14,.own 1 3 0 l1_418.length),[]⟩] [15] [[(1,⟨79,true,x_414.2.1.flatMap e63⟩),(2,⟨3,true,x_414.2.2.flatMap eW⟩)],[(1,⟨79,true,l1_418.flatMap e63⟩),(2,⟨3,true,x_414.2.2.flatMap eW⟩)]] [[],[],[],[1,2],[1,2,3],[1,2,3,4],[],[1,2,3,4,5,6],[],[],[8,9],[8,9,10],[8,9,10,11],[1,2,3,4,5,6,7,8,9,10,11,12],[1,2,3,4,5,6,7,8,9,10,11,12,13],[0,1,2,3,4,5,6,7,8,9,10,11,12,13,14],[0,1,2,3,4,5,6,7,8,9,10,11,12,13,14,15]] (by kernel_rfl) (by kernel_rfl) (BornL.ok (.o<| .o<| .o<| .o<| .o<| .o<| .o<| .b rfl rfl<| .b rfl rfl<| .b rfl rfl<| .b rfl rfl<| .b rfl rfl<| .b rfl rfl<| .b rfl rfl<| .b rfl rfl<| .b rfl rfl<| .b rfl rfl<| .b rfl rfl<| .b rfl rfl<| .b rfl rfl<| .b rfl rfl<| .b rfl rfl<| .b rfl rfl<| .b rfl rfl<| .n)) (BaseL.ok (.o rfl<| .o rfl<| .o rfl<| .o rfl<| .o rfl<| .o rfl<| .o rfl<| .b<| .b<| .b<| .b<| .b<| .b<| .b<| .b<| .b<| .b<| .b<| .b<| .b<| .b<| .b<| .b<| .b<| .n)) rfl (by decide) (allLt rfl) (.read rfl (.c (.put (fun E hE => .move (l1 rfl) (hE.t 0 rfl))) (.n))<| .pure rfl (fun H => .put (fun E hE => .move (l1 rfl) (hE.t 0 rfl)))<| .pure rfl (fun H => .put (fun E hE => .move (l1 rfl) (hE.t 0 rfl)))<| .pure rfl (fun H => .put (fun E hE => .indexRd (enc := e63) (l1 rfl) (hE.t 0 rfl) (hE.t 1 rfl) Tryz.underlying22 sz79 encR63_len rfl hy_416))<| .pure rfl (fun H => .put (fun E hE => .fieldR (l1 rfl) (hE.t 0 rfl) fld79_0 rfl))<| .pure rfl (fun H => .put (fun E hE => .loadR (v := iW y_416.Rl) (l1 rfl) (hE.t 0 rfl) one3 rfl))<| .pure rfl (fun H => .put (fun E hE => .move (l1 rfl) (hE.t 0 rfl)))<| .pure rfl (fun H => .put (fun E hE => .sub (l1 rfl) (hE.t 0 rfl) (hE.t 1 rfl)))<| .pure rfl (fun H => .put (fun E hE => .move (l1 rfl) (hE.t 0 rfl)))<| .pure rfl (fun H => .put (fun E hE => .move (l1 rfl) (hE.t 0 rfl)))<| .pure rfl (fun H => .put (fun E hE => .indexRd (enc := e63) (l1 rfl) (hE.t 0 rfl) (hE.t 1 rfl) Tryz.underlying22 sz79 encR63_len rfl hy_417))<| .pure rfl (fun H => .put (fun E hE => .fieldR (l1 rfl) (hE.t 0 rfl) fld79_1 rfl))<| .pure rfl (fun H => .put (fun E hE => .loadR (v := iW y_417.Ln) (l1 rfl) (hE.t 0 rfl) one3 rfl))<| .pure rfl (fun H => .put (fun E hE => .buildO (offs := [(0,1),(1,1),(2,1)]) (l1 rfl) (.cons (hE.t 0 rfl) (by first | exact ⟨rfl,rfl⟩ | rfl) (.cons (hE.t 1 rfl) (by first | exact ⟨rfl,rfl⟩ | rfl) (.cons (.const _ _ _) (by first | exact ⟨rfl,rfl⟩ | rfl) (.nil)))) zero79 offs79 rfl))<| .pure rfl (fun H => .put (fun E hE => .frzAny (fun t ht => AStep.buildSlice (t := t) (out := ([(R63.mk (IntKind.wrap .i64 (y_416.Rl - p_20)) y_417.Ln (0 : Int))] : List R63).flatMap e63) (l1 rfl) ht (.cons (hE.t 0 rfl) (by first | exact ⟨rfl,rfl⟩ | rfl) (.nil)) Tryz.underlying22 zero79 el79 (by decide) (by decide) rfl (still_all encR63_still _)) rfl encR63_len))<| .turn rfl rfl rfl rfl rfl (.new (fun E hE => .app (enc := e63) (l1 rfl) (nm rfl) (hE.t 0 rfl) (Src.rd (hE.t 1 rfl) (flatMap_length encR63_len _) (one_all encR63_one _) (.inl rfl)) Tryz.underlying22 ⟨_,Tryz.underlying22,by intro k hk; cases hk⟩ el79 rfl encR63_len rfl rfl (by decide) hl1_418) rfl)<| .read rfl (.c (.put (fun E hE => .assign (l1 rfl) (hE.t 0 rfl))) (.n))<| .nil _) (fun E hE => .c (DInv.at hE (k := 0) rfl rfl rfl)<| .c (DInv.at hE (k := 1) rfl rfl rfl)<| .c (DInv.at hE (k := 2) rfl rfl rfl)<| .c (DInv.at hE (k := 23) rfl rfl rfl)<| .c (DInv.at hE (k := 4) rfl rfl rfl)<| .c (DInv.at hE (k := 5) rfl rfl rfl)<| .n _) rfl ?_
     refine AWP.vs ⟨[(0,rW β1 a0 e63),(5,iW p_20),(7,iW (0 : Int)),(14,.own 1 3 0 l1_418.length),(15,.own 2 1 0 x_414.2.2.length),(16,iW x_414.1)],[(1,⟨79,true,l1_418.flatMap e63⟩),(2,⟨3,true,x_414.2.2.flatMap eW⟩)]⟩ rfl rfl ?_
     obtain ⟨y_419,hy_419,h⟩ := bindS h
     obtain ⟨l2_420,hl2_420,h⟩ := bindS h
     refine AWP.rg (.cons (.move (l1 rfl) (.t rfl))<| .cons (.move (l1 rfl) (.t rfl))<| .cons (.move (l1 rfl) (.t rfl))<| .cons (.indexRd (enc := e63) (l1 rfl) (.t rfl) (.t rfl) Tryz.underlying22 sz79 encR63_len rfl hy_419)<| .cons (.fieldR (l1 rfl) (.t rfl) fld79_2 rfl)<| .cons (.loadR (v := iW y_419.Due) (l1 rfl) (.t rfl) one3 rfl)<| .cons (.buildSlice (t := 4) (out := ([y_419.Due] : List Int).flatMap eW) (l1 rfl) (nm rfl) (.cons (.t rfl) (by first | exact ⟨rfl,rfl⟩ | rfl) (.nil)) Tryz.underlying23 zero3 el3 (by decide) (by decide) rfl (still_all (encI_still .i64) _))<| .cons (.app (enc := eW) (l1 rfl) (nm rfl) (.t rfl) (Src.own (.t rfl) rfl (lendAll (encI_len .i64) _) (flatMap_length (encI_len .i64) _) (one_all (encI_one .i64) _) (.inl rfl)) Tryz.underlying23 ⟨_,Tryz.underlying23,by intro k hk; cases hk⟩ el3 rfl (encI_len .i64) rfl rfl (by decide) hl2_420)<| .cons (.assign (l1 rfl) (.t rfl))<| .nil _ _ _) ?_
     refine AWP.vs ⟨[(0,rW β1 a0 e63),(5,iW p_20),(7,iW (0 : Int)),(14,.own 1 3 0 l1_418.length),(15,.own 2 1 0 l2_420.length),(16,iW x_414.1)],[(2,⟨3,true,l2_420.flatMap eW⟩),(1,⟨79,true,l1_418.flatMap e63⟩)]⟩ rfl rfl ?_
     obtain ⟨t16_421,ht16_421,h⟩ := letS h
     refine AWP.rg (.cons (.move (l1 rfl) (.t rfl))<| .cons (.add (l1 rfl) (.t rfl) (.const _ _ _))<| .cons (.assign (l1 rfl) (.t rfl))<| .nil _ _ _) ?_
     exact endJ (t16_421,l1_418,l2_420) h (by subst ht16_421; exact VC.sub (.of rfl) (.of rfl))
    ·have h := iteF hc h
     refine AWP.exit ?_
     exact endJ (x_414.2.1,x_414.2.2) h (VC.sub (.of rfl) (.of rfl))
 ·refine AWP.vs ⟨[(0,rW β1 a0 e63),(1,bW a1),(5,iW (0 : Int)),(6,iW (0 : Int))],[]⟩ rfl rfl ?_
  refine AWP.loopM (S := fun x_13 : Int × Int => ⟨[(0,rW β1 a0 e63),(1,bW a1),(5,iW x_13.1),(6,iW x_13.2)],[]⟩) (x := ((0 : Int),(0 : Int))) (fun nx_14 x_13 h => ?_) h
  unfold m76_L1 at h
  refine AWP.seq ?_
  refine AWP.seq ?_
  refine AWP.rg (.cons (.move (l1 rfl) (.t rfl))<| .cons (.move (l1 rfl) (.t rfl))<| .cons (.lenRd (l1 rfl) (.t rfl) Tryz.underlying22)<| .cons (.lss (l1 rfl) (.t rfl) (.t rfl))<| .nil _ _ _) ?_
  refine AWP.vs ⟨[(0,rW β1 a0 e63),(1,bW a1),(5,iW x_13.1),(6,iW x_13.2),(23,bW (decide (x_13.2 < (a0.length : Int))))],[]⟩ rfl rfl ?_
  refine AWP.cond (.t rfl) (fun hc => ?_) (fun hc => ?_)
  ·have h := iteT hc h
   refine AWP.skip ?_
   refine AWP.seq ?_
   refine AWP.block ?_
   refine AWP.seq ?_
   obtain ⟨y_15,hy_15,h⟩ := bindS h
   refine AWP.rg (.cons (.move (l1 rfl) (.t rfl))<| .cons (.eql (l1 rfl) (.t rfl) (.const _ _ _))<| .cons (.move (l1 rfl) (.t rfl))<| .guard (j := 2) (dj := 28) rfl (l1 rfl) rfl (l1 rfl) (fun hg => .move (l1 rfl) (.t rfl))<| .guard (j := 2) (dj := 28) rfl (l1 rfl) rfl (l1 rfl) (fun hg => .move (l1 rfl) (.t rfl))<| .guard (j := 2) (dj := 28) rfl (l1 rfl) rfl (l1 rfl) (fun hg => .indexRd (enc := e63) (l1 rfl) (.gd hg (.t rfl)) (.gd hg (.t rfl)) Tryz.underlying22 sz79 encR63_len rfl (gdB hy_15 hg))<| .guard (j := 2) (dj := 28) rfl (l1 rfl) rfl (l1 rfl) (fun hg => .fieldR (l1 rfl) (.gd hg (.t rfl)) fld79_0 rfl)<| .guard (j := 2) (dj := 28) rfl (l1 rfl) rfl (l1 rfl) (fun hg => .loadR (v := iW y_15.Rl) (l1 rfl) (.gd hg (.t rfl)) one3 rfl)<| .guard (j := 2) (dj := 28) rfl (l1 rfl) rfl (l1 rfl) (fun hg => .move (l1 rfl) (.t rfl))<| .guard (j := 2) (dj := 28) rfl (l1 rfl) rfl (l1 rfl) (fun hg => .lss (l1 rfl) (.gd hg (.t rfl)) (.gd hg (.t rfl)))<| .cons (.pickOr (l1 rfl) (.t rfl) (.const _ _ _) (.t rfl))<| .nil _ _ _) ?_
   refine AWP.vs ⟨[(0,rW β1 a0 e63),(1,bW a1),(5,iW x_13.1),(6,iW x_13.2),(36,bW ((decide (x_13.2 = (0 : Int))) || (decide (y_15.Rl < x_13.1))))],[]⟩ rfl rfl ?_
   refine AWP.join' (S := fun p_17 : Int => ⟨[(0,rW β1 a0 e63),(1,bW a1),(5,iW p_17),(6,iW x_13.2)],[]⟩) h (fun p_17 h => ?_) (fun k_18 h => ?_)
   ·obtain ⟨t6_19,ht6_19,h⟩ := letS h
    refine AWP.rg (.cons (.move (l1 rfl) (.t rfl))<| .cons (.add (l1 rfl) (.t rfl) (.const _ _ _))<| .cons (.assign (l1 rfl) (.t rfl))<| .nil _ _ _) ?_
    exact endJ (p_17,t6_19) h (by subst ht6_19; exact VC.sub (.of rfl) (.n _))
   ·refine AWP.cond (.t rfl) (fun hc => ?_) (fun hc => ?_)
    ·have h := iteT hc h
     obtain ⟨y_16,hy_16,h⟩ := bindS h
     refine AWP.rg (.cons (.move (l1 rfl) (.t rfl))<| .cons (.move (l1 rfl) (.t rfl))<| .cons (.indexRd (enc := e63) (l1 rfl) (.t rfl) (.t rfl) Tryz.underlying22 sz79 encR63_len rfl hy_16)<| .cons (.fieldR (l1 rfl) (.t rfl) fld79_0 rfl)<| .cons (.loadR (v := iW y_16.Rl) (l1 rfl) (.t rfl) one3 rfl)<| .cons (.assign (l1 rfl) (.t rfl))<| .nil _ _ _) ?_
     exact endJ y_16.Rl h (VC.sub (.of rfl) (.n _))
    ·have h := iteF hc h
     refine AWP.skip ?_
     exact endJ x_13.1 h (VC.sub (.of rfl) (.n _))
  ·have h := iteF hc h
   refine AWP.exit ?_
   exact endJ x_13.1 h (VC.sub (.of rfl) (.n _))
theorem c38 {β1 : Bool} {β2 : Bool} (n : Nat) (a0 : (List R63)) (a1 : (List Int)) {r : (Int × Int)} (h : m38 n a0 a1 = some r) : Spec Tryz.prog 38 [] [rW β1 a0 e63,rW β2 a1 eW] [] (.tup [iW r.1,iW r.2]) [] := by
 refine Spec.of (fn := Tryz.f38) Tryz.func38 Tryz.ntmps38 rfl rfl (le1 rfl) (fun w0 Zs Zb T0 ι0 => ?_)
 unfold m38 at h
 refine AWP.seq ?_
 refine AWP.rg (.cons (.assign (l1 rfl) (.const _ _ _))<| .cons (.assign (l1 rfl) (.const _ _ _))<| .nil _ _ _) ?_
 refine AWP.vs ⟨[(0,rW β1 a0 e63),(1,rW β2 a1 eW)],[]⟩ rfl rfl ?_
 refine AWP.seq ?_
 obtain ⟨y_1,hy_1,h⟩ := bindS h
 refine AWP.rg (.cons (.move (l1 rfl) (.t rfl))<| .cons (.move (l1 rfl) (.t rfl))<| .cons (.call0 (bw := false) (l1 rfl) (c59 (β1 := β1) (β2 := β2) n a0 a1 hy_1) (.cons (.t rfl) (.ren rfl) (.cons (.t rfl) (.ren rfl) (.nil))) rfl)<| .cons (.move (l1 rfl) (.t rfl))<| .cons (.extract (l1 rfl) (.t rfl) rfl)<| .cons (.extract (l1 rfl) (.t rfl) rfl)<| .cons (.assign (l1 rfl) (.t rfl))<| .cons (.assign (l1 rfl) (.t rfl))<| .nil _ _ _) ?_
 refine AWP.vs ⟨[(0,rW β1 a0 e63),(1,rW β2 a1 eW),(6,rW false y_1.1 eW),(7,iW y_1.2)],[]⟩ rfl rfl ?_
 refine AWP.seq ?_
 refine AWP.rg (.cons (.assign (l1 rfl) (.const _ _ _))<| .nil _ _ _) ?_
 refine AWP.vs ⟨[(0,rW β1 a0 e63),(1,rW β2 a1 eW),(6,rW false y_1.1 eW),(7,iW y_1.2),(8,iW (0 : Int))],[]⟩ rfl rfl ?_
 refine AWP.seq ?_
 refine AWP.seq ?_
 refine AWP.rg (.cons (.assign (l1 rfl) (.const _ _ _))<| .nil _ _ _) ?_
 refine AWP.vs ⟨[(0,rW β1 a0 e63),(1,rW β2 a1 eW),(6,rW false y_1.1 eW),(7,iW y_1.2),(8,iW (0 : Int)),(9,iW (0 : Int))],[]⟩ rfl rfl ?_
 refine AWP.joinB' (S := fun p_27 : Int => ⟨[(7,iW y_1.2),(8,iW p_27)],[]⟩) h (fun p_27 h => ?_) (fun k_28 h => ?_)
 ·refine AWP.seq ?_
  refine AWP.rg (.cons (.move (l1 rfl) (.t rfl))<| .cons (.move (l1 rfl) (.t rfl))<| .cons (.assign (l1 rfl) (.t rfl))<| .cons (.assign (l1 rfl) (.t rfl))<| .nil _ _ _) ?_
  refine AWP.ret ?_
  obtain rfl := Option.some.inj h
  refine retJ (Res.vc (s' := ⟨[(4,iW p_27),(5,iW y_1.2)],[]⟩) (VC.sub (.of rfl) (.n _)) ?_)
  refine Res.drop (H := []) rfl ?_
  exact Res.of rfl (.cons (.tmp rfl) (.cons (.tmp rfl) (.nil))) rfl rfl
 ·refine AWP.vs ⟨[(0,rW β1 a0 e63),(1,rW β2 a1 eW),(6,rW false y_1.1 eW),(7,iW y_1.2),(8,iW (0 : Int)),(9,iW (0 : Int))],[]⟩ rfl rfl ?_
  refine AWP.loopM (S := fun x_18 : Int × Int => ⟨[(0,rW β1 a0 e63),(1,rW β2 a1 eW),(6,rW false y_1.1 eW),(7,iW y_1.2),(8,iW x_18.1),(9,iW x_18.2)],[]⟩) (x := ((0 : Int),(0 : Int))) (fun nx_19 x_18 h => ?_) h
  unfold m38_L1 at h
  refine AWP.seq ?_
  refine AWP.seq ?_
  refine AWP.rg (.cons (.move (l1 rfl) (.t rfl))<| .cons (.move (l1 rfl) (.t rfl))<| .cons (.lenRd (l1 rfl) (.t rfl) Tryz.underlying23)<| .cons (.lss (l1 rfl) (.t rfl) (.t rfl))<| .nil _ _ _) ?_
  refine AWP.vs ⟨[(0,rW β1 a0 e63),(1,rW β2 a1 eW),(6,rW false y_1.1 eW),(7,iW y_1.2),(8,iW x_18.1),(9,iW x_18.2),(20,bW (decide (x_18.2 < (y_1.1.length : Int))))],[]⟩ rfl rfl ?_
  refine AWP.cond (.t rfl) (fun hc => ?_) (fun hc => ?_)
  ·have h := iteT hc h
   refine AWP.skip ?_
   refine AWP.seq ?_
   refine AWP.block ?_
   refine AWP.seq ?_
   obtain ⟨y_20,hy_20,h⟩ := bindS h
   obtain ⟨y_21,hy_21,h⟩ := bindS h
   obtain ⟨y_22,hy_22,h⟩ := bindS h
   obtain ⟨t10_23,ht10_23,h⟩ := letS h
   refine AWP.draw (s' := ⟨[(0,rW β1 a0 e63),(1,rW β2 a1 eW),(6,rW false y_1.1 eW),(7,iW y_1.2),(8,iW x_18.1),(9,iW x_18.2),(10,iW (IntKind.wrap .i64 (y_20 - y_22.Due)))],[]⟩) mixed [⟨0,rW β1 a0 e63,none,[]⟩,⟨1,rW β2 a1 eW,none,[]⟩,⟨6,rW false y_1.1 eW,none,[]⟩,⟨7,iW y_1.2,none,[]⟩,⟨8,iW x_18.1,none,[]⟩,⟨9,iW x_18.2,none,[]⟩,⟨20,bW (decide (x_18.2 < (y_1.1.length : Int))),none,[]⟩,⟨23,rW false y_1.1 eW,some 0,[]⟩,⟨24,iW x_18.2,some 1,[]⟩,⟨25,.rptr false [iW y_20],some 2,[]⟩,⟨26,iW y_20,some 3,[]⟩,⟨27,rW β1 a0 e63,some 4,[]⟩,⟨28,rW β2 a1 eW,some 5,[]⟩,⟨29,iW x_18.2,some 6,[]⟩,⟨30,.rptr β2 [iW y_21],some 7,[]⟩,⟨31,iW y_21,some 8,[]⟩,⟨32,.rptr β1 [iW y_22.Rl,iW y_22.Ln,iW y_22.Due],some 9,[]⟩,⟨33,.rptr β1 [iW y_22.Due],some 10,[]⟩,⟨34,iW y_22.Due,some 11,[]⟩,⟨35,iW (IntKind.wrap .i64 (y_20 - y_22.Due)),some 12,[]⟩,⟨10,iW (IntKind.wrap .i64 (y_20 - y_22.Due)),some 13,[]⟩] [⟨[2],0,0,some (23,rW false y_1.1 eW),[]⟩,⟨[5],0,0,some (24,iW x_18.2),[]⟩,⟨[7,8],0,0,some (25,.rptr false [iW y_20]),[]⟩,⟨[9],0,0,some (26,iW y_20),[]⟩,⟨[0],0,0,some (27,rW β1 a0 e63),[]⟩,⟨[1],0,0,some (28,rW β2 a1 eW),[]⟩,⟨[5],0,0,some (29,iW x_18.2),[]⟩,⟨[12,13],0,0,some (30,.rptr β2 [iW y_21]),[]⟩,⟨[14],0,0,some (31,iW y_21),[]⟩,⟨[11,15],0,0,some (32,.rptr β1 [iW y_22.Rl,iW y_22.Ln,iW y_22.Due]),[]⟩,⟨[16],0,0,some (33,.rptr β1 [iW y_22.Due]),[]⟩,⟨[17],0,0,some (34,iW y_22.Due),[]⟩,⟨[10,18],0,0,some (35,iW (IntKind.wrap .i64 (y_20 - y_22.Due))),[]⟩,⟨[19],0,0,some (10,iW (IntKind.wrap .i64 (y_20 - y_22.Due))),[]⟩] [] [[]] [[],[],[0,1],[0,1,2],[],[],[],[5,6],[5,6,7],[4,5,6,7,8],[4,5,6,7,8,9],[4,5,6,7,8,9,10],[0,1,2,3,4,5,6,7,8,9,10,11],[0,1,2,3,4,5,6,7,8,9,10,11,12]] (by kernel_rfl) (by kernel_rfl) (BornL.ok (.o<| .o<| .o<| .o<| .o<| .o<| .o<| .b rfl rfl<| .b rfl rfl<| .b rfl rfl<| .b rfl rfl<| .b rfl rfl<| .b rfl rfl<| .b rfl rfl<| .b rfl rfl<| .b rfl rfl<| .b rfl rfl<| .b rfl rfl<| .b rfl rfl<| .b rfl rfl<| .b rfl rfl<| .n)) (BaseL.ok (.o rfl<| .o rfl<| .o rfl<| .o rfl<| .o rfl<| .o rfl<| .o rfl<| .b<| .b<| .b<| .b<| .b<| .b<| .b<| .b<| .b<| .b<| .b<| .b<| .b<| .b<| .n)) rfl (by decide) (allLt rfl) (.pure rfl (fun H => .put (fun E hE => .move (l1 rfl) (hE.t 0 rfl)))<| .pure rfl (fun H => .put (fun E hE => .move (l1 rfl) (hE.t 0 rfl)))<| .pure rfl (fun H => .put (fun E hE => .indexRd (enc := eW) (l1 rfl) (hE.t 0 rfl) (hE.t 1 rfl) Tryz.underlying23 sz3 (encI_len .i64) rfl hy_20))<| .pure rfl (fun H => .put (fun E hE => .loadR (v := iW y_20) (l1 rfl) (hE.t 0 rfl) one3 rfl))<| .pure rfl (fun H => .put (fun E hE => .move (l1 rfl) (hE.t 0 rfl)))<| .pure rfl (fun H => .put (fun E hE => .move (l1 rfl) (hE.t 0 rfl)))<| .pure rfl (fun H => .put (fun E hE => .move (l1 rfl) (hE.t 0 rfl)))<| .pure rfl (fun H => .put (fun E hE => .indexRd (enc := eW) (l1 rfl) (hE.t 0 rfl) (hE.t 1 rfl) Tryz.underlying23 sz3 (encI_len .i64) rfl hy_21))<| .pure rfl (fun H => .put (fun E hE => .loadR (v := iW y_21) (l1 rfl) (hE.t 0 rfl) one3 rfl))<| .pure rfl (fun H => .put (fun E hE => .indexRd (enc := e63) (l1 rfl) (hE.t 0 rfl) (hE.t 1 rfl) Tryz.underlying22 sz79 encR63_len rfl hy_22))<| .pure rfl (fun H => .put (fun E hE => .fieldR (l1 rfl) (hE.t 0 rfl) fld79_2 rfl))<| .pure rfl (fun H => .put (fun E hE => .loadR (v := iW y_22.Due) (l1 rfl) (hE.t 0 rfl) one3 rfl))<| .pure rfl (fun H => .put (fun E hE => .sub (l1 rfl) (hE.t 0 rfl) (hE.t 1 rfl)))<| .pure rfl (fun H => .put (fun E hE => .assign (l1 rfl) (hE.t 0 rfl)))<| .nil _) (fun E hE => .c (DInv.at hE (k := 0) rfl rfl rfl)<| .c (DInv.at hE (k := 1) rfl rfl rfl)<| .c (DInv.at hE (k := 2) rfl rfl rfl)<| .c (DInv.at hE (k := 3) rfl rfl rfl)<| .c (DInv.at hE (k := 4) rfl rfl rfl)<| .c (DInv.at hE (k := 5) rfl rfl rfl)<| .c (DInv.at hE (k := 20) rfl rfl rfl)<| .n _) rfl ?_
   refine AWP.vc (s' := ⟨[(0,rW β1 a0 e63),(1,rW β2 a1 eW),(6,rW false y_1.1 eW),(7,iW y_1.2),(8,iW x_18.1),(9,iW x_18.2),(10,iW t10_23)],[]⟩) (by subst ht10_23; exact VC.sub (.of rfl) (.n _)) ?_
   refine AWP.seq ?_
   refine AWP.rg (.cons (.move (l1 rfl) (.t rfl))<| .cons (.eql (l1 rfl) (.t rfl) (.const _ _ _))<| .cons (.move (l1 rfl) (.t rfl))<| .guard (j := 2) (dj := 38) rfl (l1 rfl) rfl (l1 rfl) (fun hg => .move (l1 rfl) (.t rfl))<| .guard (j := 2) (dj := 38) rfl (l1 rfl) rfl (l1 rfl) (fun hg => .move (l1 rfl) (.t rfl))<| .guard (j := 2) (dj := 38) rfl (l1 rfl) rfl (l1 rfl) (fun hg => .gtr (l1 rfl) (.gd hg (.t rfl)) (.gd hg (.t rfl)))<| .cons (.pickOr (l1 rfl) (.t rfl) (.const _ _ _) (.t rfl))<| .nil _ _ _) ?_
   refine AWP.vs ⟨[(0,rW β1 a0 e63),(1,rW β2 a1 eW),(6,rW false y_1.1 eW),(7,iW y_1.2),(8,iW x_18.1),(9,iW x_18.2),(10,iW t10_23),(42,bW ((decide (x_18.2 = (0 : Int))) || (decide (x_18.1 < t10_23))))],[]⟩ rfl rfl ?_
   refine AWP.join' (S := fun p_24 : Int => ⟨[(0,rW β1 a0 e63),(1,rW β2 a1 eW),(6,rW false y_1.1 eW),(7,iW y_1.2),(8,iW p_24),(9,iW x_18.2)],[]⟩) h (fun p_24 h => ?_) (fun k_25 h => ?_)
   ·obtain ⟨t9_26,ht9_26,h⟩ := letS h
    refine AWP.rg (.cons (.move (l1 rfl) (.t rfl))<| .cons (.add (l1 rfl) (.t rfl) (.const _ _ _))<| .cons (.assign (l1 rfl) (.t rfl))<| .nil _ _ _) ?_
    exact endJ (p_24,t9_26) h (by subst ht9_26; exact VC.sub (.of rfl) (.n _))
   ·refine AWP.cond (.t rfl) (fun hc => ?_) (fun hc => ?_)
    ·have h := iteT hc h
     refine AWP.rg (.cons (.move (l1 rfl) (.t rfl))<| .cons (.assign (l1 rfl) (.t rfl))<| .nil _ _ _) ?_
     exact endJ t10_23 h (VC.sub (.of rfl) (.n _))
    ·have h := iteF hc h
     refine AWP.skip ?_
     exact endJ x_18.1 h (VC.sub (.of rfl) (.n _))
  ·have h := iteF hc h
   refine AWP.exit ?_
   exact endJ x_18.1 h (VC.sub (.of rfl) (.n _))
theorem c70 {β1 : Bool} {β2 : Bool} (n : Nat) (a0 : R24) {r : Int} (h : m70 n a0 = some r) : Spec Tryz.prog 70 [] [.agg (gW β1 β2 a0.Jb a0.Dn a0.Mt a0.Bo)] [] (iW r) [] := by
 refine Spec.of (fn := Tryz.f70) Tryz.func70 Tryz.ntmps70 rfl rfl (le1 rfl) (fun w0 Zs Zb T0 ι0 => ?_)
 unfold m70 at h
 refine AWP.seq ?_
 refine AWP.rg (.cons (.box (t := 1) (n := 4) (l1 rfl) (nm rfl) (.t rfl) (by first | exact ⟨rfl,rfl⟩ | rfl) rfl)<| .cons (.assign (l1 rfl) (.const _ _ _))<| .nil _ _ _) ?_
 refine AWP.vs ⟨[(1,.ptr 1 0)],[(1,⟨25,false,(gW β1 β2 a0.Jb a0.Dn a0.Mt a0.Bo)⟩)]⟩ rfl rfl ?_
 refine AWP.seq ?_
 obtain ⟨y_1,hy_1,h⟩ := bindS h
 refine AWP.rg (.cons (.fieldP (l1 rfl) (.t rfl) fld25_0)<| .cons (.loadP (l1 rfl) (.t rfl) one22 rfl rfl rfl)<| .cons (.fieldP (l1 rfl) (.t rfl) fld25_1)<| .cons (.loadP (l1 rfl) (.t rfl) one23 rfl rfl rfl)<| .cons (.call0 (bw := false) (l1 rfl) (c59 (β1 := β1) (β2 := β2) n a0.Jb a0.Dn hy_1) (.cons (.t rfl) (.ren rfl) (.cons (.t rfl) (.ren rfl) (.nil))) rfl)<| .cons (.move (l1 rfl) (.t rfl))<| .cons (.extract (l1 rfl) (.t rfl) rfl)<| .cons (.extract (l1 rfl) (.t rfl) rfl)<| .cons (.assign (l1 rfl) (.t rfl))<| .cons (.assign (l1 rfl) (.t rfl))<| .nil _ _ _) ?_
 refine AWP.vs ⟨[(1,.ptr 1 0),(3,rW false y_1.1 eW)],[(1,⟨25,false,(gW β1 β2 a0.Jb a0.Dn a0.Mt a0.Bo)⟩)]⟩ rfl rfl ?_
 refine AWP.seq ?_
 refine AWP.rg (.cons (.assign (l1 rfl) (.const _ _ _))<| .nil _ _ _) ?_
 refine AWP.vs ⟨[(1,.ptr 1 0),(3,rW false y_1.1 eW),(5,iW (0 : Int))],[(1,⟨25,false,(gW β1 β2 a0.Jb a0.Dn a0.Mt a0.Bo)⟩)]⟩ rfl rfl ?_
 refine AWP.seq ?_
 refine AWP.seq ?_
 refine AWP.rg (.cons (.move (l1 rfl) (.t rfl))<| .cons (.lenRd (l1 rfl) (.t rfl) Tryz.underlying23)<| .cons (.gtr (l1 rfl) (.t rfl) (.const _ _ _))<| .nil _ _ _) ?_
 refine AWP.vs ⟨[(1,.ptr 1 0),(3,rW false y_1.1 eW),(5,iW (0 : Int)),(23,bW (decide ((0 : Int) < (y_1.1.length : Int))))],[(1,⟨25,false,(gW β1 β2 a0.Jb a0.Dn a0.Mt a0.Bo)⟩)]⟩ rfl rfl ?_
 refine AWP.join' (S := fun p_3 : Int => ⟨[(1,.ptr 1 0),(5,iW p_3)],[(1,⟨25,false,(gW β1 β2 a0.Jb a0.Dn a0.Mt a0.Bo)⟩)]⟩) h (fun p_3 h => ?_) (fun k_4 h => ?_)
 ·refine AWP.seq ?_
  refine AWP.rg (.cons (.assign (l1 rfl) (.const _ _ _))<| .nil _ _ _) ?_
  refine AWP.vs ⟨[(1,.ptr 1 0),(5,iW p_3),(6,.sc (.slice none 0 0))],[(1,⟨25,false,(gW β1 β2 a0.Jb a0.Dn a0.Mt a0.Bo)⟩)]⟩ rfl rfl ?_
  refine AWP.seq ?_
  refine AWP.seq ?_
  refine AWP.rg (.cons (.assign (l1 rfl) (.const _ _ _))<| .nil _ _ _) ?_
  refine AWP.vs ⟨[(1,.ptr 1 0),(5,iW p_3),(6,.sc (.slice none 0 0)),(7,iW (0 : Int))],[(1,⟨25,false,(gW β1 β2 a0.Jb a0.Dn a0.Mt a0.Bo)⟩)]⟩ rfl rfl ?_
  refine AWP.joinB' (S := fun p_27 : (List R63) => ⟨[(1,.ptr 1 0),(6,.own 2 3 0 p_27.length)],[(1,⟨25,false,(gW β1 β2 a0.Jb a0.Dn a0.Mt a0.Bo)⟩),(2,⟨79,true,p_27.flatMap e63⟩)]⟩) h (fun p_27 h => ?_) (fun k_28 h => ?_)
  ·refine AWP.seq ?_
   refine AWP.seq ?_
   refine AWP.rg (.cons (.fieldP (l1 rfl) (.t rfl) fld25_2)<| .cons (.loadP (l1 rfl) (.t rfl) one4 rfl rfl rfl)<| .cons (.not (l1 rfl) (.t rfl))<| .nil _ _ _) ?_
   refine AWP.vs ⟨[(1,.ptr 1 0),(6,.own 2 3 0 p_27.length),(61,bW (!a0.Mt))],[(1,⟨25,false,(gW β1 β2 a0.Jb a0.Dn a0.Mt a0.Bo)⟩),(2,⟨79,true,p_27.flatMap e63⟩)]⟩ rfl rfl ?_
   refine AWP.cond (.t rfl) (fun hc => ?_) (fun hc => ?_)
   ·have h := iteT hc h
    refine AWP.seq ?_
    obtain ⟨y_29,hy_29,h⟩ := bindS h
    refine AWP.rg (.cons (.fieldP (l1 rfl) (.t rfl) fld25_0)<| .cons (.loadP (l1 rfl) (.t rfl) one22 rfl rfl rfl)<| .cons (.fieldP (l1 rfl) (.t rfl) fld25_1)<| .cons (.loadP (l1 rfl) (.t rfl) one23 rfl rfl rfl)<| .cons (.call0 (bw := false) (l1 rfl) (c37 (β1 := β1) (β2 := β2) n a0.Jb a0.Dn hy_29) (.cons (.t rfl) (.ren rfl) (.cons (.t rfl) (.ren rfl) (.nil))) rfl)<| .cons (.move (l1 rfl) (.t rfl))<| .cons (.extract (l1 rfl) (.t rfl) rfl)<| .cons (.extract (l1 rfl) (.t rfl) rfl)<| .cons (.assign (l1 rfl) (.t rfl))<| .cons (.assign (l1 rfl) (.t rfl))<| .nil _ _ _) ?_
    refine AWP.vs ⟨[(6,.own 2 3 0 p_27.length),(9,iW y_29.1)],[(2,⟨79,true,p_27.flatMap e63⟩)]⟩ rfl rfl ?_
    refine AWP.seq ?_
    obtain ⟨y_30,hy_30,h⟩ := bindS h
    obtain ⟨t2_31,ht2_31,h⟩ := letS h
    refine AWP.rg (.cons (.move (l1 rfl) (.t rfl))<| .cons (.move (l1 rfl) (.t rfl))<| .cons (.call0 (bw := true) (l1 rfl) (c76 (β1 := true) n p_27 false hy_30) (.cons (.t rfl) (.lendRow rfl rfl encR63_len rfl) (.cons (.const _ _ _) (.ren rfl) (.nil))) rfl)<| .cons (.add (l1 rfl) (.t rfl) (.t rfl))<| .cons (.assign (l1 rfl) (.t rfl))<| .nil _ _ _) ?_
    refine AWP.ret ?_
    obtain rfl := Option.some.inj h
    refine retJ (Res.vc (s' := ⟨[(2,iW t2_31)],[]⟩) (by subst ht2_31; exact VC.sub (.of rfl) (.n _)) ?_)
    refine Res.drop (H := []) rfl ?_
    exact Res.of rfl (.cons (.tmp rfl) (.nil)) rfl rfl
   ·have h := iteF hc h
    refine AWP.skip ?_
    refine AWP.seq ?_
    obtain ⟨y_32,hy_32,h⟩ := bindS h
    refine AWP.rg (.cons (.fieldP (l1 rfl) (.t rfl) fld25_0)<| .cons (.loadP (l1 rfl) (.t rfl) one22 rfl rfl rfl)<| .cons (.fieldP (l1 rfl) (.t rfl) fld25_1)<| .cons (.loadP (l1 rfl) (.t rfl) one23 rfl rfl rfl)<| .cons (.call0 (bw := false) (l1 rfl) (c38 (β1 := β1) (β2 := β2) n a0.Jb a0.Dn hy_32) (.cons (.t rfl) (.ren rfl) (.cons (.t rfl) (.ren rfl) (.nil))) rfl)<| .cons (.move (l1 rfl) (.t rfl))<| .cons (.extract (l1 rfl) (.t rfl) rfl)<| .cons (.extract (l1 rfl) (.t rfl) rfl)<| .cons (.assign (l1 rfl) (.t rfl))<| .cons (.assign (l1 rfl) (.t rfl))<| .nil _ _ _) ?_
    refine AWP.vs ⟨[(1,.ptr 1 0),(6,.own 2 3 0 p_27.length),(11,iW y_32.1)],[(1,⟨25,false,(gW β1 β2 a0.Jb a0.Dn a0.Mt a0.Bo)⟩),(2,⟨79,true,p_27.flatMap e63⟩)]⟩ rfl rfl ?_
    refine AWP.seq ?_
    refine AWP.block ?_
    refine AWP.seq ?_
    refine AWP.rg (.cons (.move (l1 rfl) (.t rfl))<| .cons (.lenOwn (l1 rfl) (.t rfl) Tryz.underlying22)<| .cons (.eql (l1 rfl) (.t rfl) (.const _ _ _))<| .cons (.assign (l1 rfl) (.t rfl))<| .nil _ _ _) ?_
    refine AWP.vs ⟨[(1,.ptr 1 0),(6,.own 2 3 0 p_27.length),(11,iW y_32.1),(82,bW (decide ((p_27.length : Int) = (0 : Int))))],[(1,⟨25,false,(gW β1 β2 a0.Jb a0.Dn a0.Mt a0.Bo)⟩),(2,⟨79,true,p_27.flatMap e63⟩)]⟩ rfl rfl ?_
    refine AWP.cond (.t rfl) (fun hc => ?_) (fun hc => ?_)
    ·have h := iteT hc h
     refine AWP.seq ?_
     refine AWP.rg (.cons (.move (l1 rfl) (.t rfl))<| .cons (.assign (l1 rfl) (.t rfl))<| .nil _ _ _) ?_
     refine AWP.ret ?_
     obtain rfl := Option.some.inj h
     refine retJ (Res.vc (s' := ⟨[(2,iW y_32.1)],[]⟩) (VC.sub (.of rfl) (.n _)) ?_)
     refine Res.drop (H := []) rfl ?_
     exact Res.of rfl (.cons (.tmp rfl) (.nil)) rfl rfl
    ·have h := iteF hc h
     refine AWP.seq ?_
     refine AWP.rg (.cons (.fieldP (l1 rfl) (.t rfl) fld25_1)<| .cons (.loadP (l1 rfl) (.t rfl) one23 rfl rfl rfl)<| .cons (.lenRd (l1 rfl) (.t rfl) Tryz.underlying23)<| .cons (.eql (l1 rfl) (.t rfl) (.const _ _ _))<| .cons (.assign (l1 rfl) (.t rfl))<| .nil _ _ _) ?_
     refine AWP.vs ⟨[(6,.own 2 3 0 p_27.length),(11,iW y_32.1),(87,bW (decide ((a0.Dn.length : Int) = (0 : Int))))],[(2,⟨79,true,p_27.flatMap e63⟩)]⟩ rfl rfl ?_
     refine AWP.cond (.t rfl) (fun hc => ?_) (fun hc => ?_)
     ·have h := iteT hc h
      refine AWP.seq ?_
      obtain ⟨y_33,hy_33,h⟩ := bindS h
      refine AWP.rg (.cons (.move (l1 rfl) (.t rfl))<| .cons (.call0 (bw := true) (l1 rfl) (c76 (β1 := true) n p_27 true hy_33) (.cons (.t rfl) (.lendRow rfl rfl encR63_len rfl) (.cons (.const _ _ _) (.ren rfl) (.nil))) rfl)<| .cons (.assign (l1 rfl) (.t rfl))<| .nil _ _ _) ?_
      refine AWP.ret ?_
      obtain rfl := Option.some.inj h
      refine retJ (Res.vc (s' := ⟨[(2,iW y_33)],[]⟩) (VC.sub (.of rfl) (.n _)) ?_)
      refine Res.drop (H := []) rfl ?_
      exact Res.of rfl (.cons (.tmp rfl) (.nil)) rfl rfl
     ·have h := iteF hc h
      refine AWP.skip ?_
      refine AWP.seq ?_
      obtain ⟨y_34,hy_34,h⟩ := bindS h
      obtain ⟨t2_35,ht2_35,h⟩ := letS h
      refine AWP.rg (.cons (.move (l1 rfl) (.t rfl))<| .cons (.move (l1 rfl) (.t rfl))<| .cons (.call0 (bw := true) (l1 rfl) (c76 (β1 := true) n p_27 true hy_34) (.cons (.t rfl) (.lendRow rfl rfl encR63_len rfl) (.cons (.const _ _ _) (.ren rfl) (.nil))) rfl)<| .cons (.max2 (l1 rfl) (.t rfl) (.t rfl))<| .cons (.assign (l1 rfl) (.t rfl))<| .nil _ _ _) ?_
      refine AWP.ret ?_
      obtain rfl := Option.some.inj h
      refine retJ (Res.vc (s' := ⟨[(2,iW t2_35)],[]⟩) (by subst ht2_35; exact VC.sub (.of rfl) (.n _)) ?_)
      refine Res.drop (H := []) rfl ?_
      exact Res.of rfl (.cons (.tmp rfl) (.nil)) rfl rfl
  ·refine AWP.vc (VC.nilOwn (d := 6) (t := 2) (sz := 3) (E := 79) rfl (nm rfl)) ?_
   refine AWP.vs ⟨[(1,.ptr 1 0),(5,iW p_3),(6,.own 2 3 0 ([] : List R63).length),(7,iW (0 : Int))],[(1,⟨25,false,(gW β1 β2 a0.Jb a0.Dn a0.Mt a0.Bo)⟩),(2,⟨79,true,([] : List R63).flatMap e63⟩)]⟩ rfl rfl ?_
   refine AWP.loopM (S := fun x_19 : Int × (List R63) => ⟨[(1,.ptr 1 0),(5,iW p_3),(6,.own 2 3 0 x_19.2.length),(7,iW x_19.1)],[(1,⟨25,false,(gW β1 β2 a0.Jb a0.Dn a0.Mt a0.Bo)⟩),(2,⟨79,true,x_19.2.flatMap e63⟩)]⟩) (x := ((0 : Int),([] : List R63))) (fun nx_20 x_19 h => ?_) h
   unfold m70_L1 at h
   refine AWP.seq ?_
   refine AWP.seq ?_
   refine AWP.rg (.cons (.move (l1 rfl) (.t rfl))<| .cons (.fieldP (l1 rfl) (.t rfl) fld25_0)<| .cons (.loadP (l1 rfl) (.t rfl) one22 rfl rfl rfl)<| .cons (.lenRd (l1 rfl) (.t rfl) Tryz.underlying22)<| .cons (.lss (l1 rfl) (.t rfl) (.t rfl))<| .nil _ _ _) ?_
   refine AWP.vs ⟨[(1,.ptr 1 0),(5,iW p_3),(6,.own 2 3 0 x_19.2.length),(7,iW x_19.1),(34,bW (decide (x_19.1 < (a0.Jb.length : Int))))],[(1,⟨25,false,(gW β1 β2 a0.Jb a0.Dn a0.Mt a0.Bo)⟩),(2,⟨79,true,x_19.2.flatMap e63⟩)]⟩ rfl rfl ?_
   refine AWP.cond (.t rfl) (fun hc => ?_) (fun hc => ?_)
   ·have h := iteT hc h
    refine AWP.skip ?_
    refine AWP.seq ?_
    refine AWP.block ?_
    refine AWP.seq ?_
    obtain ⟨y_21,hy_21,h⟩ := bindS h
    refine AWP.rg (.cons (.fieldP (l1 rfl) (.t rfl) fld25_0)<| .cons (.loadP (l1 rfl) (.t rfl) one22 rfl rfl rfl)<| .cons (.move (l1 rfl) (.t rfl))<| .cons (.indexRd (enc := e63) (l1 rfl) (.t rfl) (.t rfl) Tryz.underlying22 sz79 encR63_len rfl hy_21)<| .cons (.loadRA (out := [iW y_21.Rl,iW y_21.Ln,iW y_21.Due]) (l1 rfl) (.t rfl) agg79 (Nat.le_of_eq (Eq.symm (encR63_len _))) rfl)<| .cons (.alloc (t := 3) (k := ⟨79,false,[iW (0 : Int),iW (0 : Int),iW (0 : Int)]⟩) (l1 rfl) (nm rfl) zero79 rfl rfl)<| .cons (.storePA (.t rfl) (.t rfl) sz79 rfl rfl (le1 rfl) (one_lit rfl) (by intro h; cases h) rfl)<| .nil _ _ _) ?_
    refine AWP.vs ⟨[(1,.ptr 1 0),(5,iW p_3),(6,.own 2 3 0 x_19.2.length),(7,iW x_19.1),(8,.ptr 3 0)],[(3,⟨79,false,[iW y_21.Rl,iW y_21.Ln,iW y_21.Due]⟩),(1,⟨25,false,(gW β1 β2 a0.Jb a0.Dn a0.Mt a0.Bo)⟩),(2,⟨79,true,x_19.2.flatMap e63⟩)]⟩ rfl rfl ?_
    refine AWP.seq ?_
    obtain ⟨y_22,hy_22,h⟩ := bindS h
    refine AWP.rg (.cons (.fieldP (l1 rfl) (.t rfl) fld25_1)<| .cons (.loadP (l1 rfl) (.t rfl) one23 rfl rfl rfl)<| .cons (.move (l1 rfl) (.t rfl))<| .cons (.call0 (bw := false) (l1 rfl) (c58 (β1 := β2) n a0.Dn x_19.1 hy_22) (.cons (.t rfl) (.ren rfl) (.cons (.t rfl) (.ren rfl) (.nil))) rfl)<| .cons (.not (l1 rfl) (.t rfl))<| .nil _ _ _) ?_
    refine AWP.vs ⟨[(1,.ptr 1 0),(5,iW p_3),(6,.own 2 3 0 x_19.2.length),(7,iW x_19.1),(8,.ptr 3 0),(46,bW (!y_22))],[(3,⟨79,false,[iW y_21.Rl,iW y_21.Ln,iW y_21.Due]⟩),(1,⟨25,false,(gW β1 β2 a0.Jb a0.Dn a0.Mt a0.Bo)⟩),(2,⟨79,true,x_19.2.flatMap e63⟩)]⟩ rfl rfl ?_
    refine AWP.join' (S := fun p_24 : (List R63) => ⟨[(1,.ptr 1 0),(5,iW p_3),(6,.own 2 3 0 p_24.length),(7,iW x_19.1)],[(1,⟨25,false,(gW β1 β2 a0.Jb a0.Dn a0.Mt a0.Bo)⟩),(2,⟨79,true,p_24.flatMap e63⟩)]⟩) h (fun p_24 h => ?_) (fun k_25 h => ?_)
    ·obtain ⟨t7_26,ht7_26,h⟩ := letS h
     refine AWP.rg (.cons (.move (l1 rfl) (.t rfl))<| .cons (.add (l1 rfl) (.t rfl) (.const _ _ _))<| .cons (.assign (l1 rfl) (.t rfl))<| .nil _ _ _) ?_
     exact endJ (t7_26,p_24) h (by subst ht7_26; exact VC.sub (.of rfl) (.of rfl))
    ·refine AWP.cond (.t rfl) (fun hc => ?_) (fun hc => ?_)
     ·have h := iteT hc h
      obtain ⟨l2_23,hl2_23,h⟩ := bindS h
      refine AWP.rg (.cons (.move (l1 rfl) (.t rfl))<| .cons (.fieldP (l1 rfl) (.t rfl) fld79_0)<| .cons (.loadP (l1 rfl) (.t rfl) one3 rfl rfl rfl)<| .cons (.move (l1 rfl) (.t rfl))<| .cons (.max2 (l1 rfl) (.t rfl) (.t rfl))<| .cons (.fieldP (l1 rfl) (.t rfl) fld79_1)<| .cons (.loadP (l1 rfl) (.t rfl) one3 rfl rfl rfl)<| .cons (.fieldP (l1 rfl) (.t rfl) fld79_2)<| .cons (.loadP (l1 rfl) (.t rfl) one3 rfl rfl rfl)<| .cons (.buildO (offs := [(0,1),(1,1),(2,1)]) (l1 rfl) (.cons (.t rfl) (by first | exact ⟨rfl,rfl⟩ | rfl) (.cons (.t rfl) (by first | exact ⟨rfl,rfl⟩ | rfl) (.cons (.t rfl) (by first | exact ⟨rfl,rfl⟩ | rfl) (.nil)))) zero79 offs79 rfl)<| .cons (.buildSlice (t := 4) (out := ([(R63.mk (if p_3 > y_21.Rl then p_3 else y_21.Rl) y_21.Ln y_21.Due)] : List R63).flatMap e63) (l1 rfl) (nm rfl) (.cons (.t rfl) (by first | exact ⟨rfl,rfl⟩ | rfl) (.nil)) Tryz.underlying22 zero79 el79 (by decide) (by decide) rfl (still_all encR63_still _))<| .cons (.app (enc := e63) (l1 rfl) (nm rfl) (.t rfl) (Src.own (.t rfl) rfl (lendAll encR63_len _) (flatMap_length encR63_len _) (one_all encR63_one _) (.inl rfl)) Tryz.underlying22 ⟨_,Tryz.underlying22,by intro k hk; cases hk⟩ el79 rfl encR63_len rfl rfl (by decide) hl2_23)<| .cons (.assign (l1 rfl) (.t rfl))<| .nil _ _ _) ?_
      exact endJ l2_23 h (VC.sub (.of rfl) (.of rfl))
     ·have h := iteF hc h
      refine AWP.skip ?_
      exact endJ x_19.2 h (VC.sub (.of rfl) (.of rfl))
   ·have h := iteF hc h
    refine AWP.exit ?_
    exact endJ x_19.2 h (VC.sub (.of rfl) (.of rfl))
 ·refine AWP.cond (.t rfl) (fun hc => ?_) (fun hc => ?_)
  ·have h := iteT hc h
   obtain ⟨y_2,hy_2,h⟩ := bindS h
   refine AWP.rg (.cons (.move (l1 rfl) (.t rfl))<| .cons (.move (l1 rfl) (.t rfl))<| .cons (.lenRd (l1 rfl) (.t rfl) Tryz.underlying23)<| .cons (.sub (l1 rfl) (.t rfl) (.const _ _ _))<| .cons (.indexRd (enc := eW) (l1 rfl) (.t rfl) (.t rfl) Tryz.underlying23 sz3 (encI_len .i64) rfl hy_2)<| .cons (.loadR (v := iW y_2) (l1 rfl) (.t rfl) one3 rfl)<| .cons (.assign (l1 rfl) (.t rfl))<| .nil _ _ _) ?_
   exact endJ y_2 h (VC.sub (.of rfl) (.of rfl))
  ·have h := iteF hc h
   refine AWP.skip ?_
   exact endJ (0 : Int) h (VC.sub (.of rfl) (.of rfl))
theorem c55 {β1 : Bool} {β2 : Bool} {β3 : Bool} (n : Nat) (a0 : R24) (a1 : (List Int)) {r : Bool} (h : m55 n a0 a1 = some r) : Spec Tryz.prog 55 [] [.agg (gW β1 β2 a0.Jb a0.Dn a0.Mt a0.Bo),rW β3 a1 eW] [] (bW r) [] := by
 refine Spec.of (fn := Tryz.f55) Tryz.func55 Tryz.ntmps55 rfl rfl (le1 rfl) (fun w0 Zs Zb T0 ι0 => ?_)
 unfold m55 at h
 refine AWP.seq ?_
 refine AWP.rg (.cons (.box (t := 1) (n := 4) (l1 rfl) (nm rfl) (.t rfl) (by first | exact ⟨rfl,rfl⟩ | rfl) rfl)<| .cons (.assign (l1 rfl) (.const _ _ _))<| .nil _ _ _) ?_
 refine AWP.vs ⟨[(1,rW β3 a1 eW),(2,.ptr 1 0)],[(1,⟨25,false,(gW β1 β2 a0.Jb a0.Dn a0.Mt a0.Bo)⟩)]⟩ rfl rfl ?_
 refine AWP.seq ?_
 obtain ⟨y_1,hy_1,h⟩ := bindS h
 obtain ⟨y_2,hy_2,h⟩ := bindS h
 refine AWP.draw (s' := ⟨[(4,bW ((y_1 && (decide ((a1.length : Int) = (0 : Int)))) && (decide (a0.Bo ≤ y_2))))],[(1,⟨25,false,(gW β1 β2 a0.Jb a0.Dn a0.Mt a0.Bo)⟩)]⟩) mixed [⟨1,rW β3 a1 eW,none,[]⟩,⟨2,.ptr 1 0,none,[]⟩,⟨5,.agg (gW β1 β2 a0.Jb a0.Dn a0.Mt a0.Bo),some 0,[]⟩,⟨6,bW y_1,some 1,[]⟩,⟨7,bW y_1,some 2,[]⟩,⟨8,.gd y_1 (rW β3 a1 eW),some 3,[]⟩,⟨9,.gd y_1 (iW (a1.length : Int)),some 4,[]⟩,⟨10,.gd y_1 (bW (decide ((a1.length : Int) = (0 : Int)))),some 5,[]⟩,⟨11,bW (y_1 && (decide ((a1.length : Int) = (0 : Int)))),some 6,[]⟩,⟨12,bW (y_1 && (decide ((a1.length : Int) = (0 : Int)))),some 7,[]⟩,⟨13,.gd (y_1 && (decide ((a1.length : Int) = (0 : Int)))) (.ptr 1 (0 + 3)),some 8,[]⟩,⟨14,.gd (y_1 && (decide ((a1.length : Int) = (0 : Int)))) (iW a0.Bo),some 9,[]⟩,⟨15,.gd (y_1 && (decide ((a1.length : Int) = (0 : Int)))) (.agg (gW β1 β2 a0.Jb a0.Dn a0.Mt a0.Bo)),some 10,[]⟩,⟨16,.gd (y_1 && (decide ((a1.length : Int) = (0 : Int)))) (iW y_2),some 11,[]⟩,⟨17,.gd (y_1 && (decide ((a1.length : Int) = (0 : Int)))) (bW (decide (a0.Bo ≤ y_2))),some 12,[]⟩,⟨18,bW ((y_1 && (decide ((a1.length : Int) = (0 : Int)))) && (decide (a0.Bo ≤ y_2))),some 13,[]⟩,⟨4,bW ((y_1 && (decide ((a1.length : Int) = (0 : Int)))) && (decide (a0.Bo ≤ y_2))),some 14,[]⟩] [⟨[1],0,0,some (5,.agg (gW β1 β2 a0.Jb a0.Dn a0.Mt a0.Bo)),[]⟩,⟨[2],0,0,some (6,bW y_1),[]⟩,⟨[3],0,0,some (7,bW y_1),[]⟩,⟨[4,0],0,0,some (8,.gd y_1 (rW β3 a1 eW)),[]⟩,⟨[4,5],0,0,some (9,.gd y_1 (iW (a1.length : Int))),[]⟩,⟨[4,6],0,0,some (10,.gd y_1 (bW (decide ((a1.length : Int) = (0 : Int))))),[]⟩,⟨[4,7],0,0,some (11,bW (y_1 && (decide ((a1.length : Int) = (0 : Int))))),[]⟩,⟨[8],0,0,some (12,bW (y_1 && (decide ((a1.length : Int) = (0 : Int))))),[]⟩,⟨[9,1],0,0,some (13,.gd (y_1 && (decide ((a1.length : Int) = (0 : Int)))) (.ptr 1 (0 + 3))),[]⟩,⟨[9,10],0,0,some (14,.gd (y_1 && (decide ((a1.length : Int) = (0 : Int)))) (iW a0.Bo)),[]⟩,⟨[9,1],0,0,some (15,.gd (y_1 && (decide ((a1.length : Int) = (0 : Int)))) (.agg (gW β1 β2 a0.Jb a0.Dn a0.Mt a0.Bo))),[]⟩,⟨[9,12],0,0,some (16,.gd (y_1 && (decide ((a1.length : Int) = (0 : Int)))) (iW y_2)),[]⟩,⟨[9,11,13],0,0,some (17,.gd (y_1 && (decide ((a1.length : Int) = (0 : Int)))) (bW (decide (a0.Bo ≤ y_2)))),[]⟩,⟨[9,14],0,0,some (18,bW ((y_1 && (decide ((a1.length : Int) = (0 : Int)))) && (decide (a0.Bo ≤ y_2)))),[]⟩,⟨[15],0,0,some (4,bW ((y_1 && (decide ((a1.length : Int) = (0 : Int)))) && (decide (a0.Bo ≤ y_2)))),[]⟩] [] [[(1,⟨25,false,(gW β1 β2 a0.Jb a0.Dn a0.Mt a0.Bo)⟩)]] [[],[0],[0,1],[0,1,2],[0,1,2,3],[0,1,2,3,4],[0,1,2,3,4,5],[0,1,2,3,4,5,6],[0,1,2,3,4,5,6,7],[0,1,2,3,4,5,6,7,8],[0,1,2,3,4,5,6,7],[0,1,2,3,4,5,6,7,10],[0,1,2,3,4,5,6,7,8,9,10,11],[0,1,2,3,4,5,6,7,8,9,10,11,12],[0,1,2,3,4,5,6,7,8,9,10,11,12,13]] (by kernel_rfl) (by kernel_rfl) (BornL.ok (.o<| .o<| .b rfl rfl<| .b rfl rfl<| .b rfl rfl<| .b rfl rfl<| .b rfl rfl<| .b rfl rfl<| .b rfl rfl<| .b rfl rfl<| .b rfl rfl<| .b rfl rfl<| .b rfl rfl<| .b rfl rfl<| .b rfl rfl<| .b rfl rfl<| .b rfl rfl<| .n)) (BaseL.ok (.o rfl<| .o rfl<| .b<| .b<| .b<| .b<| .b<| .b<| .b<| .b<| .b<| .b<| .b<| .b<| .b<| .b<| .b<| .n)) rfl (by decide) (allLt rfl) (.read rfl (.c (.put (fun E hE => .loadPA (l1 rfl) (hE.t 0 rfl) agg25 rfl rfl rfl rfl)) .n)<| .pure rfl (fun H => .put (fun E hE => .call0 (bw := false) (l1 rfl) (c31 (β1 := β1) (β2 := β2) n (R24.mk a0.Jb a0.Dn a0.Mt a0.Bo) hy_1) (.cons (hE.t 0 rfl) (.ren rfl) (.nil)) rfl))<| .pure rfl (fun H => .put (fun E hE => .move (l1 rfl) (hE.t 0 rfl)))<| .pure rfl (fun H => .gput (b := y_1) (want := true) (j := 2) (dj := 7) rfl (l1 rfl) (l1 rfl) (fun E hE => hE.at (k := 0) rfl) (fun hg E hE => .move (l1 rfl) (hE.t 1 rfl)))<| .pure rfl (fun H => .gput (b := y_1) (want := true) (j := 2) (dj := 7) rfl (l1 rfl) (l1 rfl) (fun E hE => hE.at (k := 0) rfl) (fun hg E hE => .lenRd (l1 rfl) (.gd hg (hE.t 1 rfl)) Tryz.underlying23))<| .pure rfl (fun H => .gput (b := y_1) (want := true) (j := 2) (dj := 7) rfl (l1 rfl) (l1 rfl) (fun E hE => hE.at (k := 0) rfl) (fun hg E hE => .eql (l1 rfl) (.gd hg (hE.t 1 rfl)) (.const _ _ _)))<| .pure rfl (fun H => .put (fun E hE => .pickAnd (l1 rfl) (hE.t 0 rfl) (hE.t 1 rfl) (.const _ _ _)))<| .pure rfl (fun H => .put (fun E hE => .move (l1 rfl) (hE.t 0 rfl)))<| .read rfl (.c (.gput (b := (y_1 && (decide ((a1.length : Int) = (0 : Int))))) (want := true) (j := 7) (dj := 12) rfl (l1 rfl) (l1 rfl) (fun E hE => hE.at (k := 0) rfl) (fun hg E hE => .fieldP (l1 rfl) (hE.t 1 rfl) fld25_3)) .n)<| .read rfl (.c (.gput (b := (y_1 && (decide ((a1.length : Int) = (0 : Int))))) (want := true) (j := 7) (dj := 12) rfl (l1 rfl) (l1 rfl) (fun E hE => hE.at (k := 0) rfl) (fun hg E hE => .loadP (l1 rfl) (.gd hg (hE.t 1 rfl)) one3 rfl rfl rfl)) .n)<| .read rfl (.c (.gput (b := (y_1 && (decide ((a1.length : Int) = (0 : Int))))) (want := true) (j := 7) (dj := 12) rfl (l1 rfl) (l1 rfl) (fun E hE => hE.at (k := 0) rfl) (fun hg E hE => .loadPA (l1 rfl) (hE.t 1 rfl) agg25 rfl rfl rfl rfl)) .n)<| .pure rfl (fun H => .gput (b := (y_1 && (decide ((a1.length : Int) = (0 : Int))))) (want := true) (j := 7) (dj := 12) rfl (l1 rfl) (l1 rfl) (fun E hE => hE.at (k := 0) rfl) (fun hg E hE => .call0 (bw := false) (l1 rfl) (c70 (β1 := β1) (β2 := β2) n (R24.mk a0.Jb a0.Dn a0.Mt a0.Bo) (gdB hy_2 hg)) (.cons (.gd hg (hE.t 1 rfl)) (.ren rfl) (.nil)) rfl))<| .pure rfl (fun H => .gput (b := (y_1 && (decide ((a1.length : Int) = (0 : Int))))) (want := true) (j := 7) (dj := 12) rfl (l1 rfl) (l1 rfl) (fun E hE => hE.at (k := 0) rfl) (fun hg E hE => .leq (l1 rfl) (.gd hg (hE.t 1 rfl)) (.gd hg (hE.t 2 rfl))))<| .pure rfl (fun H => .put (fun E hE => .pickAnd (l1 rfl) (hE.t 0 rfl) (hE.t 1 rfl) (.const _ _ _)))<| .pure rfl (fun H => .put (fun E hE => .assign (l1 rfl) (hE.t 0 rfl)))<| .nil _) (fun E hE => .c (DInv.at hE (k := 16) rfl rfl rfl)<| .n _) rfl ?_
 refine AWP.ret ?_
 obtain rfl := Option.some.inj h
 refine retJ (Res.vc (s' := ⟨[(4,bW ((y_1 && (decide ((a1.length : Int) = (0 : Int)))) && (decide (a0.Bo ≤ y_2))))],[]⟩) (VC.sub (.of rfl) (.n _)) ?_)
 refine Res.drop (H := []) rfl ?_
 exact Res.of rfl (.cons (.tmp rfl) (.nil)) rfl rfl
theorem c56 {β2 : Bool} (n : Nat) (a0 : R24) (a1 : Int) {r : ((List R24) × Bool)} (h : m56 n a0 a1 = some r) : Spec Tryz.prog 56 [] [.agg (gW false β2 a0.Jb a0.Dn a0.Mt a0.Bo),iW a1] [] (.tup [rW false r.1 encR24,bW r.2]) [] := by
 refine Spec.of (fn := Tryz.f56) Tryz.func56 Tryz.ntmps56 rfl rfl (le1 rfl) (fun w0 Zs Zb T0 ι0 => ?_)
 unfold m56 at h
 refine AWP.seq ?_
 refine AWP.rg (.cons (.box (t := 1) (n := 4) (l1 rfl) (nm rfl) (.t rfl) (by first | exact ⟨rfl,rfl⟩ | rfl) rfl)<| .cons (.assign (l1 rfl) (.const _ _ _))<| .cons (.assign (l1 rfl) (.const _ _ _))<| .nil _ _ _) ?_
 refine AWP.vs ⟨[(1,iW a1),(2,.ptr 1 0)],[(1,⟨25,false,(gW false β2 a0.Jb a0.Dn a0.Mt a0.Bo)⟩)]⟩ rfl rfl ?_
 refine AWP.seq ?_
 refine AWP.seq ?_
 obtain ⟨y_1,hy_1,h⟩ := bindS h
 refine AWP.rg (.cons (.loadPA (l1 rfl) (.t rfl) agg25 rfl rfl rfl rfl)<| .cons (.call0 (bw := false) (l1 rfl) (c31 (β1 := false) (β2 := β2) n (R24.mk a0.Jb a0.Dn a0.Mt a0.Bo) hy_1) (.cons (.t rfl) (.ren rfl) (.nil)) rfl)<| .cons (.not (l1 rfl) (.t rfl))<| .cons (.move (l1 rfl) (.t rfl))<| .guard (j := 3) (dj := 11) rfl (l1 rfl) rfl (l1 rfl) (fun hg => .move (l1 rfl) (.t rfl))<| .guard (j := 3) (dj := 11) rfl (l1 rfl) rfl (l1 rfl) (fun hg => .neq (l1 rfl) (.gd hg (.t rfl)) (.const _ _ _))<| .cons (.pickOr (l1 rfl) (.t rfl) (.const _ _ _) (.t rfl))<| .cons (.move (l1 rfl) (.t rfl))<| .guard (j := 7) (dj := 15) rfl (l1 rfl) rfl (l1 rfl) (fun hg => .fieldP (l1 rfl) (.t rfl) fld25_1)<| .guard (j := 7) (dj := 15) rfl (l1 rfl) rfl (l1 rfl) (fun hg => .loadP (l1 rfl) (.gd hg (.t rfl)) one23 rfl rfl rfl)<| .guard (j := 7) (dj := 15) rfl (l1 rfl) rfl (l1 rfl) (fun hg => .lenRd (l1 rfl) (.gd hg (.t rfl)) Tryz.underlying23)<| .guard (j := 7) (dj := 15) rfl (l1 rfl) rfl (l1 rfl) (fun hg => .fieldP (l1 rfl) (.t rfl) fld25_0)<| .guard (j := 7) (dj := 15) rfl (l1 rfl) rfl (l1 rfl) (fun hg => .loadP (l1 rfl) (.gd hg (.t rfl)) one22 rfl rfl rfl)<| .guard (j := 7) (dj := 15) rfl (l1 rfl) rfl (l1 rfl) (fun hg => .lenRd (l1 rfl) (.gd hg (.t rfl)) Tryz.underlying22)<| .guard (j := 7) (dj := 15) rfl (l1 rfl) rfl (l1 rfl) (fun hg => .eql (l1 rfl) (.gd hg (.t rfl)) (.gd hg (.t rfl)))<| .cons (.pickOr (l1 rfl) (.t rfl) (.const _ _ _) (.t rfl))<| .nil _ _ _) ?_
 refine AWP.vs ⟨[(2,.ptr 1 0),(23,bW (((!y_1) || (!decide (a1 = (0 : Int)))) || (decide ((a0.Dn.length : Int) = (a0.Jb.length : Int)))))],[(1,⟨25,false,(gW false β2 a0.Jb a0.Dn a0.Mt a0.Bo)⟩)]⟩ rfl rfl ?_
 refine AWP.cond (.t rfl) (fun hc => ?_) (fun hc => ?_)
 ·have h := iteT hc h
  refine AWP.seq ?_
  refine AWP.rg (.cons (.assign (l1 rfl) (.const _ _ _))<| .cons (.assign (l1 rfl) (.const _ _ _))<| .nil _ _ _) ?_
  refine AWP.ret ?_
  obtain rfl := Option.some.inj h
  refine retJ (Res.vc (s' := ⟨[(4,rW false ([] : List R24) encR24),(5,bW false)],[]⟩) (VC.trans (VC.nilRd (d := 4) false rfl) (VC.sub (.of rfl) (.n _))) ?_)
  refine Res.drop (H := []) rfl ?_
  exact Res.of rfl (.cons (.tmp rfl) (.cons (.tmp rfl) (.nil))) rfl rfl
 ·have h := iteF hc h
  refine AWP.skip ?_
  refine AWP.seq ?_
  refine AWP.rg (.cons (.assign (l1 rfl) (.const _ _ _))<| .nil _ _ _) ?_
  refine AWP.vs ⟨[(2,.ptr 1 0),(6,.sc (.slice none 0 0))],[(1,⟨25,false,(gW false β2 a0.Jb a0.Dn a0.Mt a0.Bo)⟩)]⟩ rfl rfl ?_
  refine AWP.seq ?_
  refine AWP.seq ?_
  refine AWP.rg (.cons (.assign (l1 rfl) (.const _ _ _))<| .nil _ _ _) ?_
  refine AWP.vs ⟨[(2,.ptr 1 0),(6,.sc (.slice none 0 0)),(7,iW (0 : Int))],[(1,⟨25,false,(gW false β2 a0.Jb a0.Dn a0.Mt a0.Bo)⟩)]⟩ rfl rfl ?_
  refine AWP.joinB' (S := fun p_27 : (List R24) => ⟨[(6,.own 2 4 0 p_27.length)],[(2,⟨25,true,p_27.flatMap encR24⟩)]⟩) h (fun p_27 h => ?_) (fun k_28 h => ?_)
  ·refine AWP.seq ?_
   refine AWP.rg (.cons (.move (l1 rfl) (.t rfl))<| .cons (.assign (l1 rfl) (.t rfl))<| .cons (.assign (l1 rfl) (.const _ _ _))<| .nil _ _ _) ?_
   refine AWP.ret ?_
   obtain rfl := Option.some.inj h
   refine retJ (Res.vc (s' := ⟨[(4,rW false p_27 encR24),(5,bW true)],[]⟩) (VC.trans (VC.frz (d := 4) (t := 2) rfl rfl encR24_len) (VC.sub (.of rfl) (.n _))) ?_)
   refine Res.drop (H := []) rfl ?_
   exact Res.of rfl (.cons (.tmp rfl) (.cons (.tmp rfl) (.nil))) rfl rfl
  ·refine AWP.vc (VC.nilOwn (d := 6) (t := 2) (sz := 4) (E := 25) rfl (nm rfl)) ?_
   refine AWP.vs ⟨[(2,.ptr 1 0),(6,.own 2 4 0 ([] : List R24).length),(7,iW (0 : Int))],[(1,⟨25,false,(gW false β2 a0.Jb a0.Dn a0.Mt a0.Bo)⟩),(2,⟨25,true,([] : List R24).flatMap encR24⟩)]⟩ rfl rfl ?_
   refine AWP.loopM (S := fun x_18 : Int × (List R24) => ⟨[(2,.ptr 1 0),(6,.own 2 4 0 x_18.2.length),(7,iW x_18.1)],[(1,⟨25,false,(gW false β2 a0.Jb a0.Dn a0.Mt a0.Bo)⟩),(2,⟨25,true,x_18.2.flatMap encR24⟩)]⟩) (x := ((0 : Int),([] : List R24))) (fun nx_19 x_18 h => ?_) h
   unfold m56_L1 at h
   refine AWP.seq ?_
   refine AWP.seq ?_
   refine AWP.rg (.cons (.move (l1 rfl) (.t rfl))<| .cons (.fieldP (l1 rfl) (.t rfl) fld25_0)<| .cons (.loadP (l1 rfl) (.t rfl) one22 rfl rfl rfl)<| .cons (.lenRd (l1 rfl) (.t rfl) Tryz.underlying22)<| .cons (.lss (l1 rfl) (.t rfl) (.t rfl))<| .nil _ _ _) ?_
   refine AWP.vs ⟨[(2,.ptr 1 0),(6,.own 2 4 0 x_18.2.length),(7,iW x_18.1),(28,bW (decide (x_18.1 < (a0.Jb.length : Int))))],[(1,⟨25,false,(gW false β2 a0.Jb a0.Dn a0.Mt a0.Bo)⟩),(2,⟨25,true,x_18.2.flatMap encR24⟩)]⟩ rfl rfl ?_
   refine AWP.cond (.t rfl) (fun hc => ?_) (fun hc => ?_)
   ·have h := iteT hc h
    refine AWP.skip ?_
    refine AWP.seq ?_
    refine AWP.block ?_
    refine AWP.seq ?_
    obtain ⟨y_20,hy_20,h⟩ := bindS h
    refine AWP.rg (.cons (.fieldP (l1 rfl) (.t rfl) fld25_1)<| .cons (.loadP (l1 rfl) (.t rfl) one23 rfl rfl rfl)<| .cons (.move (l1 rfl) (.t rfl))<| .cons (.call0 (bw := false) (l1 rfl) (c58 (β1 := β2) n a0.Dn x_18.1 hy_20) (.cons (.t rfl) (.ren rfl) (.cons (.t rfl) (.ren rfl) (.nil))) rfl)<| .cons (.not (l1 rfl) (.t rfl))<| .nil _ _ _) ?_
    refine AWP.vs ⟨[(2,.ptr 1 0),(6,.own 2 4 0 x_18.2.length),(7,iW x_18.1),(35,bW (!y_20))],[(1,⟨25,false,(gW false β2 a0.Jb a0.Dn a0.Mt a0.Bo)⟩),(2,⟨25,true,x_18.2.flatMap encR24⟩)]⟩ rfl rfl ?_
    refine AWP.join' (S := fun p_24 : (List R24) => ⟨[(2,.ptr 1 0),(6,.own 2 4 0 p_24.length),(7,iW x_18.1)],[(1,⟨25,false,(gW false β2 a0.Jb a0.Dn a0.Mt a0.Bo)⟩),(2,⟨25,true,p_24.flatMap encR24⟩)]⟩) h (fun p_24 h => ?_) (fun k_25 h => ?_)
    ·obtain ⟨t7_26,ht7_26,h⟩ := letS h
     refine AWP.rg (.cons (.move (l1 rfl) (.t rfl))<| .cons (.add (l1 rfl) (.t rfl) (.const _ _ _))<| .cons (.assign (l1 rfl) (.t rfl))<| .nil _ _ _) ?_
     exact endJ (t7_26,p_24) h (by subst ht7_26; exact VC.sub (.of rfl) (.of rfl))
    ·refine AWP.cond (.t rfl) (fun hc => ?_) (fun hc => ?_)
     ·have h := iteT hc h
      obtain ⟨l3_21,hl3_21,h⟩ := bindS h
      obtain ⟨l3_22,hl3_22,h⟩ := bindS h
      obtain ⟨l2_23,hl2_23,h⟩ := bindS h
      refine AWP.draw (s' := ⟨[(2,.ptr 1 0),(6,.own 2 4 0 l2_23.length),(7,iW x_18.1)],[(2,⟨25,true,l2_23.flatMap encR24⟩),(1,⟨25,false,(gW false β2 a0.Jb a0.Dn a0.Mt a0.Bo)⟩)]⟩) mixed [⟨2,.ptr 1 0,none,[]⟩,⟨6,.own 2 4 0 x_18.2.length,none,[16,17]⟩,⟨7,iW x_18.1,none,[]⟩,⟨35,bW (!y_20),none,[]⟩,⟨36,.own 2 4 0 x_18.2.length,some 0,[16]⟩,⟨37,.ptr 1 (0 + 0),some 1,[]⟩,⟨38,rW false a0.Jb e63,some 2,[]⟩,⟨39,.own 3 1 0 ([] : List Int).length,some 3,[6,9]⟩,⟨40,.ptr 1 (0 + 1),some 4,[]⟩,⟨41,rW β2 a0.Dn eW,some 5,[]⟩,⟨42,.own 3 1 0 l3_21.length,some 6,[9]⟩,⟨43,iW x_18.1,some 7,[]⟩,⟨44,rW false ([x_18.1] : List Int) eW,some 8,[]⟩,⟨45,rW false l3_22 eW,some 9,[]⟩,⟨46,.ptr 1 (0 + 2),some 10,[]⟩,⟨47,bW a0.Mt,some 11,[]⟩,⟨48,.ptr 1 (0 + 3),some 12,[]⟩,⟨49,iW a0.Bo,some 13,[]⟩,⟨50,.agg [rW false a0.Jb e63,rW false l3_22 eW,bW a0.Mt,iW a0.Bo],some 14,[]⟩,⟨51,rW false ([(R24.mk a0.Jb l3_22 a0.Mt a0.Bo)] : List R24) encR24,some 15,[]⟩,⟨52,.own 2 4 0 l2_23.length,some 16,[]⟩,⟨6,.own 2 4 0 l2_23.length,some 17,[]⟩] [⟨[1],0,3,some (36,.own 2 4 0 x_18.2.length),[]⟩,⟨[0],0,3,some (37,.ptr 1 (0 + 0)),[]⟩,⟨[5],0,3,some (38,rW false a0.Jb e63),[]⟩,⟨[],0,0,some (39,.own 3 1 0 ([] : List Int).length),[3]⟩,⟨[0],0,1,some (40,.ptr 1 (0 + 1)),[]⟩,⟨[8],0,1,some (41,rW β2 a0.Dn eW),[]⟩,⟨[7,9],1,1,some (42,.own 3 1 0 l3_21.length),[3]⟩,⟨[2],0,4,some (43,iW x_18.1),[]⟩,⟨[11],0,4,some (44,rW false ([x_18.1] : List Int) eW),[]⟩,⟨[10,12],2,2,some (45,rW false l3_22 eW),[3]⟩,⟨[0],0,3,some (46,.ptr 1 (0 + 2)),[]⟩,⟨[14],0,3,some (47,bW a0.Mt),[]⟩,⟨[0],0,3,some (48,.ptr 1 (0 + 3)),[]⟩,⟨[16],0,3,some (49,iW a0.Bo),[]⟩,⟨[6,13,15,17],0,4,some (50,.agg [rW false a0.Jb e63,rW false l3_22 eW,bW a0.Mt,iW a0.Bo]),[]⟩,⟨[18],0,4,some (51,rW false ([(R24.mk a0.Jb l3_22 a0.Mt a0.Bo)] : List R24) encR24),[]⟩,⟨[4,19],3,3,some (52,.own 2 4 0 l2_23.length),[2]⟩,⟨[20],4,4,some (6,.own 2 4 0 l2_23.length),[]⟩] [3,6,9,16] [[(1,⟨25,false,(gW false β2 a0.Jb a0.Dn a0.Mt a0.Bo)⟩),(2,⟨25,true,x_18.2.flatMap encR24⟩)],[(3,⟨3,true,([] : List Int).flatMap eW⟩),(1,⟨25,false,(gW false β2 a0.Jb a0.Dn a0.Mt a0.Bo)⟩),(2,⟨25,true,x_18.2.flatMap encR24⟩)],[(3,⟨3,true,l3_21.flatMap eW⟩),(1,⟨25,false,(gW false β2 a0.Jb a0.Dn a0.Mt a0.Bo)⟩),(2,⟨25,true,x_18.2.flatMap encR24⟩)],[(1,⟨25,false,(gW false β2 a0.Jb a0.Dn a0.Mt a0.Bo)⟩),(2,⟨25,true,x_18.2.flatMap encR24⟩)],[(2,⟨25,true,l2_23.flatMap encR24⟩),(1,⟨25,false,(gW false β2 a0.Jb a0.Dn a0.Mt a0.Bo)⟩)]] [[],[],[1],[],[],[4],[3,4,5],[],[7],[3,4,5,6,7,8],[],[10],[],[12],[1,2,3,4,5,6,7,8,9,10,11,12,13],[1,2,3,4,5,6,7,8,9,10,11,12,13,14],[0,1,2,3,4,5,6,7,8,9,10,11,12,13,14,15],[0,1,2,3,4,5,6,7,8,9,10,11,12,13,14,15,16]] (by kernel_rfl) (by kernel_rfl) (BornL.ok (.o<| .o<| .o<| .o<| .b rfl rfl<| .b rfl rfl<| .b rfl rfl<| .b rfl rfl<| .b rfl rfl<| .b rfl rfl<| .b rfl rfl<| .b rfl rfl<| .b rfl rfl<| .b rfl rfl<| .b rfl rfl<| .b rfl rfl<| .b rfl rfl<| .b rfl rfl<| .b rfl rfl<| .b rfl rfl<| .b rfl rfl<| .b rfl rfl<| .n)) (BaseL.ok (.o rfl<| .o rfl<| .o rfl<| .o rfl<| .b<| .b<| .b<| .b<| .b<| .b<| .b<| .b<| .b<| .b<| .b<| .b<| .b<| .b<| .b<| .b<| .b<| .b<| .n)) rfl (by decide) (allLt rfl) (.read rfl (.c (.put (fun E hE => .move (l1 rfl) (hE.t 0 rfl))) (.c (.put (fun E hE => .move (l1 rfl) (hE.t 0 rfl))) (.c (.put (fun E hE => .move (l1 rfl) (hE.t 0 rfl))) (.c (.put (fun E hE => .move (l1 rfl) (hE.t 0 rfl))) (.n)))))<| .read rfl (.c (.put (fun E hE => .fieldP (l1 rfl) (hE.t 0 rfl) fld25_0)) (.c (.put (fun E hE => .fieldP (l1 rfl) (hE.t 0 rfl) fld25_0)) (.c (.put (fun E hE => .fieldP (l1 rfl) (hE.t 0 rfl) fld25_0)) (.c (.put (fun E hE => .fieldP (l1 rfl) (hE.t 0 rfl) fld25_0)) (.n)))))<| .read rfl (.c (.put (fun E hE => .loadP (l1 rfl) (hE.t 0 rfl) one22 rfl rfl rfl)) (.c (.put (fun E hE => .loadP (l1 rfl) (hE.t 0 rfl) one22 rfl rfl rfl)) (.c (.put (fun E hE => .loadP (l1 rfl) (hE.t 0 rfl) one22 rfl rfl rfl)) (.c (.put (fun E hE => .loadP (l1 rfl) (hE.t 0 rfl) one22 rfl rfl rfl)) (.n)))))<| .turn rfl rfl rfl rfl rfl (.new (fun E hE => .buildSlice (t := 3) (out := ([] : List Int).flatMap eW) (l1 rfl) (nm rfl) (.nil) Tryz.underlying23 zero3 el3 (by decide) (by decide) rfl (still_all (encI_still .i64) _)) rfl)<| .read rfl (.c (.put (fun E hE => .fieldP (l1 rfl) (hE.t 0 rfl) fld25_1)) (.c (.put (fun E hE => .fieldP (l1 rfl) (hE.t 0 rfl) fld25_1)) (.n)))<| .read rfl (.c (.put (fun E hE => .loadP (l1 rfl) (hE.t 0 rfl) one23 rfl rfl rfl)) (.c (.put (fun E hE => .loadP (l1 rfl) (hE.t 0 rfl) one23 rfl rfl rfl)) (.n)))<| .turn rfl rfl rfl rfl rfl (.new (fun E hE => .app (enc := eW) (l1 rfl) (nm rfl) (hE.t 0 rfl) (Src.rd (hE.t 1 rfl) (flatMap_length (encI_len .i64) _) (one_all (encI_one .i64) _) (.inr (scal_all (encI_scal .i64) _))) Tryz.underlying23 ⟨_,Tryz.underlying23,by intro k hk; cases hk⟩ el3 rfl (encI_len .i64) rfl rfl (by decide) hl3_21) rfl)<| .pure rfl (fun H => .put (fun E hE => .move (l1 rfl) (hE.t 0 rfl)))<| .pure rfl (fun H => .put (fun E hE => .frzAny (fun t ht => AStep.buildSlice (t := t) (out := ([x_18.1] : List Int).flatMap eW) (l1 rfl) ht (.cons (hE.t 0 rfl) (by first | exact ⟨rfl,rfl⟩ | rfl) (.nil)) Tryz.underlying23 zero3 el3 (by decide) (by decide) rfl (still_all (encI_still .i64) _)) rfl (encI_len .i64)))<| .turn rfl rfl rfl rfl rfl (.appFrz (fun E hE => .app (enc := eW) (l1 rfl) (nm rfl) (hE.t 0 rfl) (Src.rd (hE.t 1 rfl) (flatMap_length (encI_len .i64) _) (one_all (encI_one .i64) _) (.inl rfl)) Tryz.underlying23 ⟨_,Tryz.underlying23,by intro k hk; cases hk⟩ el3 rfl (encI_len .i64) rfl rfl (by decide) hl3_22) rfl (encI_len .i64))<| .read rfl (.c (.put (fun E hE => .fieldP (l1 rfl) (hE.t 0 rfl) fld25_2)) (.c (.put (fun E hE => .fieldP (l1 rfl) (hE.t 0 rfl) fld25_2)) (.c (.put (fun E hE => .fieldP (l1 rfl) (hE.t 0 rfl) fld25_2)) (.c (.put (fun E hE => .fieldP (l1 rfl) (hE.t 0 rfl) fld25_2)) (.n)))))<| .read rfl (.c (.put (fun E hE => .loadP (l1 rfl) (hE.t 0 rfl) one4 rfl rfl rfl)) (.c (.put (fun E hE => .loadP (l1 rfl) (hE.t 0 rfl) one4 rfl rfl rfl)) (.c (.put (fun E hE => .loadP (l1 rfl) (hE.t 0 rfl) one4 rfl rfl rfl)) (.c (.put (fun E hE => .loadP (l1 rfl) (hE.t 0 rfl) one4 rfl rfl rfl)) (.n)))))<| .read rfl (.c (.put (fun E hE => .fieldP (l1 rfl) (hE.t 0 rfl) fld25_3)) (.c (.put (fun E hE => .fieldP (l1 rfl) (hE.t 0 rfl) fld25_3)) (.c (.put (fun E hE => .fieldP (l1 rfl) (hE.t 0 rfl) fld25_3)) (.c (.put (fun E hE => .fieldP (l1 rfl) (hE.t 0 rfl) fld25_3)) (.n)))))<| .read rfl (.c (.put (fun E hE => .loadP (l1 rfl) (hE.t 0 rfl) one3 rfl rfl rfl)) (.c (.put (fun E hE => .loadP (l1 rfl) (hE.t 0 rfl) one3 rfl rfl rfl)) (.c (.put (fun E hE => .loadP (l1 rfl) (hE.t 0 rfl) one3 rfl rfl rfl)) (.c (.put (fun E hE => .loadP (l1 rfl) (hE.t 0 rfl) one3 rfl rfl rfl)) (.n)))))<| .pure rfl (fun H => .put (fun E hE => .buildO (offs := [(0,1),(1,1),(2,1),(3,1)]) (l1 rfl) (.cons (hE.t 0 rfl) (by first | exact ⟨rfl,rfl⟩ | rfl) (.cons (hE.t 1 rfl) (by first | exact ⟨rfl,rfl⟩ | rfl) (.cons (hE.t 2 rfl) (by first | exact ⟨rfl,rfl⟩ | rfl) (.cons (hE.t 3 rfl) (by first | exact ⟨rfl,rfl⟩ | rfl) (.nil))))) zero25 offs25 rfl))<| .pure rfl (fun H => .put (fun E hE => .frzAny (fun t ht => AStep.buildSlice (t := t) (out := ([(R24.mk a0.Jb l3_22 a0.Mt a0.Bo)] : List R24).flatMap encR24) (l1 rfl) ht (.cons (hE.t 0 rfl) (by first | exact ⟨rfl,rfl⟩ | rfl) (.nil)) Tryz.underlying101 zero25 el25 (by decide) (by decide) rfl (still_all encR24_still _)) rfl encR24_len))<| .turn rfl rfl rfl rfl rfl (.new (fun E hE => .app (enc := encR24) (l1 rfl) (nm rfl) (hE.t 0 rfl) (Src.rd (hE.t 1 rfl) (flatMap_length encR24_len _) (one_all encR24_one _) (.inl rfl)) Tryz.underlying101 ⟨_,Tryz.underlying101,by intro k hk; cases hk⟩ el25 rfl encR24_len rfl rfl (by decide) hl2_23) rfl)<| .read rfl (.c (.put (fun E hE => .assign (l1 rfl) (hE.t 0 rfl))) (.n))<| .nil _) (fun E hE => .c (DInv.at hE (k := 0) rfl rfl rfl)<| .c (DInv.at hE (k := 21) rfl rfl rfl)<| .c (DInv.at hE (k := 2) rfl rfl rfl)<| .n _) rfl ?_
      exact endJ l2_23 h (VC.sub (.of rfl) (.of rfl))
     ·have h := iteF hc h
      refine AWP.skip ?_
      exact endJ x_18.2 h (VC.sub (.of rfl) (.of rfl))
   ·have h := iteF hc h
    refine AWP.exit ?_
    exact endJ x_18.2 h (VC.sub (.of rfl) (.of rfl))
theorem c33F (n : Nat) : ∀ (f : Nat) {β2 : Bool} {β3 : Bool} {β4 : Bool} (a0 : R24) (a1 : R27) {r : ((List Int) × Bool)},m33F n f a0 a1 = some r → Spec Tryz.prog 33 [] [.agg (gW false β2 a0.Jb a0.Dn a0.Mt a0.Bo),.agg (tW encK27 β3 β4 a1.Sp a1.Kd a1.Lf)] [] (.tup [rW false r.1 eW,bW r.2]) [] := by
 intro f
 induction f with
 | zero =>
  intro β2 β3 β4 a0 a1 r h
  cases (show (none : Option ((List Int) × Bool)) = some r from h)
 | succ f ih =>
 intro β2 β3 β4 a0 a1 r h
 replace h : m33B n (m33F n f) a0 a1 = some r := h
 generalize m33F n f = rc_0 at h ih
 refine Spec.of (fn := Tryz.f33) Tryz.func33 Tryz.ntmps33 rfl rfl (le1 rfl) (fun w0 Zs Zb T0 ι0 => ?_)
 unfold m33B at h
 refine AWP.seq ?_
 refine AWP.rg (.cons (.box (t := 1) (n := 4) (l1 rfl) (nm rfl) (.t rfl) (by first | exact ⟨rfl,rfl⟩ | rfl) rfl)<| .cons (.box (t := 2) (n := 3) (l1 rfl) (nm rfl) (.t rfl) (by first | exact ⟨rfl,rfl⟩ | rfl) rfl)<| .cons (.assign (l1 rfl) (.const _ _ _))<| .cons (.assign (l1 rfl) (.const _ _ _))<| .nil _ _ _) ?_
 refine AWP.vs ⟨[(2,.ptr 1 0),(3,.ptr 2 0)],[(2,⟨28,false,(tW encK27 β3 β4 a1.Sp a1.Kd a1.Lf)⟩),(1,⟨25,false,(gW false β2 a0.Jb a0.Dn a0.Mt a0.Bo)⟩)]⟩ rfl rfl ?_
 refine AWP.seq ?_
 refine AWP.seq ?_
 refine AWP.rg (.cons (.fieldP (l1 rfl) (.t rfl) fld28_1)<| .cons (.loadP (l1 rfl) (.t rfl) one26 rfl rfl rfl)<| .cons (.lenRd (l1 rfl) (.t rfl) Tryz.underlying26)<| .cons (.eql (l1 rfl) (.t rfl) (.const _ _ _))<| .nil _ _ _) ?_
 refine AWP.vs ⟨[(2,.ptr 1 0),(3,.ptr 2 0),(14,bW (decide ((a1.Kd.length : Int) = (0 : Int))))],[(2,⟨28,false,(tW encK27 β3 β4 a1.Sp a1.Kd a1.Lf)⟩),(1,⟨25,false,(gW false β2 a0.Jb a0.Dn a0.Mt a0.Bo)⟩)]⟩ rfl rfl ?_
 refine AWP.cond (.t rfl) (fun hc => ?_) (fun hc => ?_)
 ·have h := iteT hc h
  refine AWP.seq ?_
  obtain ⟨y_1,hy_1,h⟩ := bindS h
  refine AWP.rg (.cons (.loadPA (l1 rfl) (.t rfl) agg25 rfl rfl rfl rfl)<| .cons (.fieldP (l1 rfl) (.t rfl) fld28_2)<| .cons (.loadP (l1 rfl) (.t rfl) one23 rfl rfl rfl)<| .cons (.call0 (bw := false) (l1 rfl) (c55 (β1 := false) (β2 := β2) (β3 := β4) n (R24.mk a0.Jb a0.Dn a0.Mt a0.Bo) a1.Lf hy_1) (.cons (.t rfl) (.ren rfl) (.cons (.t rfl) (.ren rfl) (.nil))) rfl)<| .cons (.not (l1 rfl) (.t rfl))<| .cons (.assign (l1 rfl) (.const _ _ _))<| .cons (.assign (l1 rfl) (.t rfl))<| .nil _ _ _) ?_
  refine AWP.ret ?_
  obtain rfl := Option.some.inj h
  refine retJ (Res.vc (s' := ⟨[(4,rW false ([] : List Int) eW),(5,bW (!y_1))],[]⟩) (VC.trans (VC.nilRd (d := 4) false rfl) (VC.sub (.of rfl) (.n _))) ?_)
  refine Res.drop (H := []) rfl ?_
  exact Res.of rfl (.cons (.tmp rfl) (.cons (.tmp rfl) (.nil))) rfl rfl
 ·have h := iteF hc h
  refine AWP.skip ?_
  refine AWP.seq ?_
  obtain ⟨y_2,hy_2,h⟩ := bindS h
  refine AWP.rg (.cons (.loadPA (l1 rfl) (.t rfl) agg25 rfl rfl rfl rfl)<| .cons (.fieldP (l1 rfl) (.t rfl) fld28_0)<| .cons (.loadP (l1 rfl) (.t rfl) one3 rfl rfl rfl)<| .cons (.call0 (bw := false) (l1 rfl) (c56 (β2 := β2) n (R24.mk a0.Jb a0.Dn a0.Mt a0.Bo) a1.Sp hy_2) (.cons (.t rfl) (.ren rfl) (.cons (.t rfl) (.ren rfl) (.nil))) rfl)<| .cons (.move (l1 rfl) (.t rfl))<| .cons (.extract (l1 rfl) (.t rfl) rfl)<| .cons (.extract (l1 rfl) (.t rfl) rfl)<| .cons (.assign (l1 rfl) (.t rfl))<| .cons (.assign (l1 rfl) (.t rfl))<| .nil _ _ _) ?_
  refine AWP.vs ⟨[(3,.ptr 2 0),(6,rW false y_2.1 encR24),(7,bW y_2.2)],[(2,⟨28,false,(tW encK27 β3 β4 a1.Sp a1.Kd a1.Lf)⟩)]⟩ rfl rfl ?_
  refine AWP.seq ?_
  refine AWP.seq ?_
  refine AWP.rg (.cons (.move (l1 rfl) (.t rfl))<| .cons (.not (l1 rfl) (.t rfl))<| .cons (.move (l1 rfl) (.t rfl))<| .guard (j := 2) (dj := 29) rfl (l1 rfl) rfl (l1 rfl) (fun hg => .move (l1 rfl) (.t rfl))<| .guard (j := 2) (dj := 29) rfl (l1 rfl) rfl (l1 rfl) (fun hg => .lenRd (l1 rfl) (.gd hg (.t rfl)) Tryz.underlying101)<| .guard (j := 2) (dj := 29) rfl (l1 rfl) rfl (l1 rfl) (fun hg => .fieldP (l1 rfl) (.t rfl) fld28_1)<| .guard (j := 2) (dj := 29) rfl (l1 rfl) rfl (l1 rfl) (fun hg => .loadP (l1 rfl) (.gd hg (.t rfl)) one26 rfl rfl rfl)<| .guard (j := 2) (dj := 29) rfl (l1 rfl) rfl (l1 rfl) (fun hg => .lenRd (l1 rfl) (.gd hg (.t rfl)) Tryz.underlying26)<| .guard (j := 2) (dj := 29) rfl (l1 rfl) rfl (l1 rfl) (fun hg => .neq (l1 rfl) (.gd hg (.t rfl)) (.gd hg (.t rfl)))<| .cons (.pickOr (l1 rfl) (.t rfl) (.const _ _ _) (.t rfl))<| .nil _ _ _) ?_
  refine AWP.vs ⟨[(3,.ptr 2 0),(6,rW false y_2.1 encR24),(36,bW ((!y_2.2) || (!decide ((y_2.1.length : Int) = (a1.Kd.length : Int)))))],[(2,⟨28,false,(tW encK27 β3 β4 a1.Sp a1.Kd a1.Lf)⟩)]⟩ rfl rfl ?_
  refine AWP.cond (.t rfl) (fun hc => ?_) (fun hc => ?_)
  ·have h := iteT hc h
   refine AWP.seq ?_
   refine AWP.rg (.cons (.assign (l1 rfl) (.const _ _ _))<| .cons (.assign (l1 rfl) (.const _ _ _))<| .nil _ _ _) ?_
   refine AWP.ret ?_
   obtain rfl := Option.some.inj h
   refine retJ (Res.vc (s' := ⟨[(4,rW false ([] : List Int) eW),(5,bW true)],[]⟩) (VC.trans (VC.nilRd (d := 4) false rfl) (VC.sub (.of rfl) (.n _))) ?_)
   refine Res.drop (H := []) rfl ?_
   exact Res.of rfl (.cons (.tmp rfl) (.cons (.tmp rfl) (.nil))) rfl rfl
  ·have h := iteF hc h
   refine AWP.skip ?_
   refine AWP.seq ?_
   refine AWP.seq ?_
   refine AWP.rg (.cons (.assign (l1 rfl) (.const _ _ _))<| .nil _ _ _) ?_
   refine AWP.vs ⟨[(3,.ptr 2 0),(6,rW false y_2.1 encR24),(8,iW (0 : Int))],[(2,⟨28,false,(tW encK27 β3 β4 a1.Sp a1.Kd a1.Lf)⟩)]⟩ rfl rfl ?_
   refine AWP.joinB' (S := fun p_22 : Unit => ⟨[],[]⟩) h (fun p_22 h => ?_) (fun k_23 h => ?_)
   ·refine AWP.seq ?_
    refine AWP.rg (.cons (.assign (l1 rfl) (.const _ _ _))<| .cons (.assign (l1 rfl) (.const _ _ _))<| .nil _ _ _) ?_
    refine AWP.ret ?_
    obtain rfl := Option.some.inj h
    refine retJ (Res.vc (s' := ⟨[(4,rW false ([] : List Int) eW),(5,bW false)],[]⟩) (VC.trans (VC.nilRd (d := 4) false rfl) (VC.sub (.of rfl) (.n _))) ?_)
    refine Res.drop (H := []) rfl ?_
    exact Res.of rfl (.cons (.tmp rfl) (.cons (.tmp rfl) (.nil))) rfl rfl
   ·refine AWP.vs ⟨[(3,.ptr 2 0),(6,rW false y_2.1 encR24),(8,iW (0 : Int))],[(2,⟨28,false,(tW encK27 β3 β4 a1.Sp a1.Kd a1.Lf)⟩)]⟩ rfl rfl ?_
    refine AWP.loopM (S := fun x_15 : Int => ⟨[(3,.ptr 2 0),(6,rW false y_2.1 encR24),(8,iW x_15)],[(2,⟨28,false,(tW encK27 β3 β4 a1.Sp a1.Kd a1.Lf)⟩)]⟩) (x := (0 : Int)) (fun nx_16 x_15 h => ?_) h
    unfold m33_L1 at h
    refine AWP.seq ?_
    refine AWP.seq ?_
    refine AWP.rg (.cons (.move (l1 rfl) (.t rfl))<| .cons (.move (l1 rfl) (.t rfl))<| .cons (.lenRd (l1 rfl) (.t rfl) Tryz.underlying101)<| .cons (.lss (l1 rfl) (.t rfl) (.t rfl))<| .nil _ _ _) ?_
    refine AWP.vs ⟨[(3,.ptr 2 0),(6,rW false y_2.1 encR24),(8,iW x_15),(40,bW (decide (x_15 < (y_2.1.length : Int))))],[(2,⟨28,false,(tW encK27 β3 β4 a1.Sp a1.Kd a1.Lf)⟩)]⟩ rfl rfl ?_
    refine AWP.cond (.t rfl) (fun hc => ?_) (fun hc => ?_)
    ·have h := iteT hc h
     refine AWP.skip ?_
     refine AWP.seq ?_
     refine AWP.block ?_
     refine AWP.seq ?_
     obtain ⟨y_17,hy_17,h⟩ := bindS h
     obtain ⟨y_18,hy_18,h⟩ := bindS h
     obtain ⟨y_19,hy_19,h⟩ := bindS h
     refine AWP.draw (s' := ⟨[(3,.ptr 2 0),(6,rW false y_2.1 encR24),(8,iW x_15),(9,rW false y_19.1 eW),(10,bW y_19.2)],[(2,⟨28,false,(tW encK27 β3 β4 a1.Sp a1.Kd a1.Lf)⟩)]⟩) mixed [⟨3,.ptr 2 0,none,[]⟩,⟨6,rW false y_2.1 encR24,none,[]⟩,⟨8,iW x_15,none,[]⟩,⟨40,bW (decide (x_15 < (y_2.1.length : Int))),none,[]⟩,⟨44,rW false y_2.1 encR24,some 0,[]⟩,⟨45,iW x_15,some 1,[]⟩,⟨46,.rptr false (gW false false y_17.Jb y_17.Dn y_17.Mt y_17.Bo),some 2,[]⟩,⟨47,.agg (gW false false y_17.Jb y_17.Dn y_17.Mt y_17.Bo),some 3,[]⟩,⟨48,.ptr 2 (0 + 1),some 4,[]⟩,⟨49,rW β3 a1.Kd encK27,some 5,[]⟩,⟨50,iW x_15,some 6,[]⟩,⟨51,.rptr β3 (tW encK27 false false y_18.out.Sp y_18.out.Kd y_18.out.Lf),some 7,[]⟩,⟨52,.agg (tW encK27 β3 β3 y_18.out.Sp y_18.out.Kd y_18.out.Lf),some 8,[]⟩,⟨53,.tup [rW false y_19.1 eW,bW y_19.2],some 9,[]⟩,⟨43,.tup [rW false y_19.1 eW,bW y_19.2],some 10,[]⟩,⟨54,rW false y_19.1 eW,some 11,[]⟩,⟨55,bW y_19.2,some 12,[]⟩,⟨9,rW false y_19.1 eW,some 13,[]⟩,⟨10,bW y_19.2,some 14,[]⟩] [⟨[1],0,0,some (44,rW false y_2.1 encR24),[]⟩,⟨[2],0,0,some (45,iW x_15),[]⟩,⟨[4,5],0,0,some (46,.rptr false (gW false false y_17.Jb y_17.Dn y_17.Mt y_17.Bo)),[]⟩,⟨[6],0,0,some (47,.agg (gW false false y_17.Jb y_17.Dn y_17.Mt y_17.Bo)),[]⟩,⟨[0],0,0,some (48,.ptr 2 (0 + 1)),[]⟩,⟨[8],0,0,some (49,rW β3 a1.Kd encK27),[]⟩,⟨[2],0,0,some (50,iW x_15),[]⟩,⟨[9,10],0,0,some (51,.rptr β3 (tW encK27 false false y_18.out.Sp y_18.out.Kd y_18.out.Lf)),[]⟩,⟨[11],0,0,some (52,.agg (tW encK27 β3 β3 y_18.out.Sp y_18.out.Kd y_18.out.Lf)),[]⟩,⟨[7,12],0,0,some (53,.tup [rW false y_19.1 eW,bW y_19.2]),[]⟩,⟨[13],0,0,some (43,.tup [rW false y_19.1 eW,bW y_19.2]),[]⟩,⟨[14],0,0,some (54,rW false y_19.1 eW),[]⟩,⟨[14],0,0,some (55,bW y_19.2),[]⟩,⟨[15],0,0,some (9,rW false y_19.1 eW),[]⟩,⟨[16],0,0,some (10,bW y_19.2),[]⟩] [] [[(2,⟨28,false,(tW encK27 β3 β4 a1.Sp a1.Kd a1.Lf)⟩)]] [[],[],[0,1],[0,1,2],[],[4],[],[4,5,6],[4,5,6,7],[0,1,2,3,4,5,6,7,8],[0,1,2,3,4,5,6,7,8,9],[0,1,2,3,4,5,6,7,8,9,10],[0,1,2,3,4,5,6,7,8,9,10],[0,1,2,3,4,5,6,7,8,9,10,11],[0,1,2,3,4,5,6,7,8,9,10,11,12,13]] (by kernel_rfl) (by kernel_rfl) (BornL.ok (.o<| .o<| .o<| .o<| .b rfl rfl<| .b rfl rfl<| .b rfl rfl<| .b rfl rfl<| .b rfl rfl<| .b rfl rfl<| .b rfl rfl<| .b rfl rfl<| .b rfl rfl<| .b rfl rfl<| .b rfl rfl<| .b rfl rfl<| .b rfl rfl<| .b rfl rfl<| .b rfl rfl<| .n)) (BaseL.ok (.o rfl<| .o rfl<| .o rfl<| .o rfl<| .b<| .b<| .b<| .b<| .b<| .b<| .b<| .b<| .b<| .b<| .b<| .b<| .b<| .b<| .b<| .n)) rfl (by decide) (allLt rfl) (.pure rfl (fun H => .put (fun E hE => .move (l1 rfl) (hE.t 0 rfl)))<| .pure rfl (fun H => .put (fun E hE => .move (l1 rfl) (hE.t 0 rfl)))<| .pure rfl (fun H => .put (fun E hE => .indexRd (enc := encR24) (l1 rfl) (hE.t 0 rfl) (hE.t 1 rfl) Tryz.underlying101 sz25 encR24_len rfl hy_17))<| .pure rfl (fun H => .put (fun E hE => .loadRA (out := (gW false false y_17.Jb y_17.Dn y_17.Mt y_17.Bo)) (l1 rfl) (hE.t 0 rfl) agg25 (Nat.le_of_eq (Eq.symm (encR24_len _))) rfl))<| .read rfl (.c (.put (fun E hE => .fieldP (l1 rfl) (hE.t 0 rfl) fld28_1)) .n)<| .read rfl (.c (.put (fun E hE => .loadP (l1 rfl) (hE.t 0 rfl) one26 rfl rfl rfl)) .n)<| .pure rfl (fun H => .put (fun E hE => .move (l1 rfl) (hE.t 0 rfl)))<| .pure rfl (fun H => .put (fun E hE => .indexRdC (enc := encK27) (l1 rfl) (hE.t 0 rfl) (hE.t 1 rfl) Tryz.underlying26 sz28 encK27_len rfl hy_18 (encK27_out _)))<| .pure rfl (fun H => .put (fun E hE => .loadRA (out := (tW encK27 β3 β3 y_18.out.Sp y_18.out.Kd y_18.out.Lf)) (l1 rfl) (hE.t 0 rfl) agg28 (le1 rfl) rfl))<| .pure rfl (fun H => .put (fun E hE => .call0 (bw := false) (l1 rfl) (ih (β2 := false) (β3 := β3) (β4 := β3) (R24.mk y_17.Jb y_17.Dn y_17.Mt y_17.Bo) (R27.mk y_18.out.Sp y_18.out.Kd y_18.out.Lf) hy_19) (.cons (hE.t 0 rfl) (.ren rfl) (.cons (hE.t 1 rfl) (.ren rfl) (.nil))) rfl))<| .pure rfl (fun H => .put (fun E hE => .move (l1 rfl) (hE.t 0 rfl)))<| .pure rfl (fun H => .put (fun E hE => .extract (l1 rfl) (hE.t 0 rfl) rfl))<| .pure rfl (fun H => .put (fun E hE => .extract (l1 rfl) (hE.t 0 rfl) rfl))<| .pure rfl (fun H => .put (fun E hE => .assign (l1 rfl) (hE.t 0 rfl)))<| .pure rfl (fun H => .put (fun E hE => .assign (l1 rfl) (hE.t 0 rfl)))<| .nil _) (fun E hE => .c (DInv.at hE (k := 0) rfl rfl rfl)<| .c (DInv.at hE (k := 1) rfl rfl rfl)<| .c (DInv.at hE (k := 2) rfl rfl rfl)<| .c (DInv.at hE (k := 17) rfl rfl rfl)<| .c (DInv.at hE (k := 18) rfl rfl rfl)<| .n _) rfl ?_
     refine AWP.vs ⟨[(3,.ptr 2 0),(6,rW false y_2.1 encR24),(8,iW x_15),(9,rW false y_19.1 eW),(10,bW y_19.2)],[(2,⟨28,false,(tW encK27 β3 β4 a1.Sp a1.Kd a1.Lf)⟩)]⟩ rfl rfl ?_
     refine AWP.seq ?_
     refine AWP.rg (.cons (.move (l1 rfl) (.t rfl))<| .nil _ _ _) ?_
     refine AWP.vs ⟨[(3,.ptr 2 0),(6,rW false y_2.1 encR24),(8,iW x_15),(9,rW false y_19.1 eW),(56,bW y_19.2)],[(2,⟨28,false,(tW encK27 β3 β4 a1.Sp a1.Kd a1.Lf)⟩)]⟩ rfl rfl ?_
     refine AWP.cond (.t rfl) (fun hc => ?_) (fun hc => ?_)
     ·have h := iteT hc h
      refine AWP.seq ?_
      obtain ⟨l3_20,hl3_20,h⟩ := bindS h
      refine AWP.rg (.cons (.move (l1 rfl) (.t rfl))<| .cons (.buildSlice (t := 3) (out := ([x_15] : List Int).flatMap eW) (l1 rfl) (nm rfl) (.cons (.t rfl) (by first | exact ⟨rfl,rfl⟩ | rfl) (.nil)) Tryz.underlying23 zero3 el3 (by decide) (by decide) rfl (still_all (encI_still .i64) _))<| .cons (.move (l1 rfl) (.t rfl))<| .cons (.app (enc := eW) (l1 rfl) (nm rfl) (.t rfl) (Src.rd (.t rfl) (flatMap_length (encI_len .i64) _) (one_all (encI_one .i64) _) (.inl rfl)) Tryz.underlying23 ⟨_,Tryz.underlying23,by intro k hk; cases hk⟩ el3 rfl (encI_len .i64) rfl rfl (by decide) hl3_20)<| .cons (.assign (l1 rfl) (.t rfl))<| .cons (.assign (l1 rfl) (.const _ _ _))<| .nil _ _ _) ?_
      refine AWP.ret ?_
      obtain rfl := Option.some.inj h
      refine retJ (Res.vc (s' := ⟨[(4,rW false l3_20 eW),(5,bW true)],[]⟩) (VC.trans (VC.frz (d := 4) (t := 3) rfl rfl (encI_len .i64)) (VC.sub (.of rfl) (.n _))) ?_)
      refine Res.drop (H := []) rfl ?_
      exact Res.of rfl (.cons (.tmp rfl) (.cons (.tmp rfl) (.nil))) rfl rfl
     ·have h := iteF hc h
      refine AWP.skip ?_
      obtain ⟨t8_21,ht8_21,h⟩ := letS h
      refine AWP.rg (.cons (.move (l1 rfl) (.t rfl))<| .cons (.add (l1 rfl) (.t rfl) (.const _ _ _))<| .cons (.assign (l1 rfl) (.t rfl))<| .nil _ _ _) ?_
      exact endJ t8_21 h (by subst ht8_21; exact VC.sub (.of rfl) (.of rfl))
    ·have h := iteF hc h
     refine AWP.exit ?_
     exact endJ () h (VC.sub (.n _) (.n _))
theorem c33 (n : Nat) {β2 : Bool} {β3 : Bool} {β4 : Bool} (a0 : R24) (a1 : R27) {r : ((List Int) × Bool)} (h : m33 n a0 a1 = some r) : Spec Tryz.prog 33 [] [.agg (gW false β2 a0.Jb a0.Dn a0.Mt a0.Bo),.agg (tW encK27 β3 β4 a1.Sp a1.Kd a1.Lf)] [] (.tup [rW false r.1 eW,bW r.2]) [] := c33F n n a0 a1 h
theorem c10 {β2 : Bool} {β3 : Bool} {β4 : Bool} (n : Nat) (a0 : R24) (a1 : R27) {r : ((List Int) × Int)} (h : m10 n a0 a1 = some r) : Spec Tryz.prog 10 [] [.agg (gW false β2 a0.Jb a0.Dn a0.Mt a0.Bo),.agg (tW encK27 β3 β4 a1.Sp a1.Kd a1.Lf)] [] (.tup [rW false r.1 eW,iW r.2]) [] := by
 refine Spec.of (fn := Tryz.f10) Tryz.func10 Tryz.ntmps10 rfl rfl (le1 rfl) (fun w0 Zs Zb T0 ι0 => ?_)
 unfold m10 at h
 refine AWP.seq ?_
 refine AWP.rg (.cons (.box (t := 1) (n := 4) (l1 rfl) (nm rfl) (.t rfl) (by first | exact ⟨rfl,rfl⟩ | rfl) rfl)<| .cons (.box (t := 2) (n := 3) (l1 rfl) (nm rfl) (.t rfl) (by first | exact ⟨rfl,rfl⟩ | rfl) rfl)<| .cons (.assign (l1 rfl) (.const _ _ _))<| .cons (.assign (l1 rfl) (.const _ _ _))<| .nil _ _ _) ?_
 refine AWP.vs ⟨[(2,.ptr 1 0),(3,.ptr 2 0)],[(2,⟨28,false,(tW encK27 β3 β4 a1.Sp a1.Kd a1.Lf)⟩),(1,⟨25,false,(gW false β2 a0.Jb a0.Dn a0.Mt a0.Bo)⟩)]⟩ rfl rfl ?_
 refine AWP.seq ?_
 refine AWP.seq ?_
 obtain ⟨y_1,hy_1,h⟩ := bindS h
 obtain ⟨y_2,hy_2,h⟩ := bindS h
 refine AWP.rg (.cons (.loadPA (l1 rfl) (.t rfl) agg25 rfl rfl rfl rfl)<| .cons (.call0 (bw := false) (l1 rfl) (c31 (β1 := false) (β2 := β2) n (R24.mk a0.Jb a0.Dn a0.Mt a0.Bo) hy_1) (.cons (.t rfl) (.ren rfl) (.nil)) rfl)<| .cons (.not (l1 rfl) (.t rfl))<| .cons (.move (l1 rfl) (.t rfl))<| .guard (j := 3) (dj := 11) rfl (l1 rfl) rfl (l1 rfl) (fun hg => .loadPA (l1 rfl) (.t rfl) agg28 rfl rfl rfl rfl)<| .guard (j := 3) (dj := 11) rfl (l1 rfl) rfl (l1 rfl) (fun hg => .call0 (bw := false) (l1 rfl) (c32 (β1 := β3) (β2 := β4) n (R27.mk a1.Sp a1.Kd a1.Lf) (gdB hy_2 hg)) (.cons (.gd hg (.t rfl)) (.ren rfl) (.nil)) rfl)<| .guard (j := 3) (dj := 11) rfl (l1 rfl) rfl (l1 rfl) (fun hg => .not (l1 rfl) (.gd hg (.t rfl)))<| .cons (.pickOr (l1 rfl) (.t rfl) (.const _ _ _) (.t rfl))<| .nil _ _ _) ?_
 refine AWP.vs ⟨[(2,.ptr 1 0),(3,.ptr 2 0),(15,bW ((!y_1) || (!y_2)))],[(2,⟨28,false,(tW encK27 β3 β4 a1.Sp a1.Kd a1.Lf)⟩),(1,⟨25,false,(gW false β2 a0.Jb a0.Dn a0.Mt a0.Bo)⟩)]⟩ rfl rfl ?_
 refine AWP.cond (.t rfl) (fun hc => ?_) (fun hc => ?_)
 ·have h := iteT hc h
  refine AWP.seq ?_
  refine AWP.rg (.cons (.assign (l1 rfl) (.const _ _ _))<| .cons (.assign (l1 rfl) (.const _ _ _))<| .nil _ _ _) ?_
  refine AWP.ret ?_
  obtain rfl := Option.some.inj h
  refine retJ (Res.vc (s' := ⟨[(4,rW false ([] : List Int) eW),(5,iW (1 : Int))],[]⟩) (VC.trans (VC.nilRd (d := 4) false rfl) (VC.sub (.of rfl) (.n _))) ?_)
  refine Res.drop (H := []) rfl ?_
  exact Res.of rfl (.cons (.tmp rfl) (.cons (.tmp rfl) (.nil))) rfl rfl
 ·have h := iteF hc h
  refine AWP.skip ?_
  refine AWP.seq ?_
  obtain ⟨y_3,hy_3,h⟩ := bindS h
  refine AWP.rg (.cons (.loadPA (l1 rfl) (.t rfl) agg25 rfl rfl rfl rfl)<| .cons (.loadPA (l1 rfl) (.t rfl) agg28 rfl rfl rfl rfl)<| .cons (.call0 (bw := false) (l1 rfl) (c33 (β2 := β2) (β3 := β3) (β4 := β4) n (R24.mk a0.Jb a0.Dn a0.Mt a0.Bo) (R27.mk a1.Sp a1.Kd a1.Lf) hy_3) (.cons (.t rfl) (.ren rfl) (.cons (.t rfl) (.ren rfl) (.nil))) rfl)<| .cons (.move (l1 rfl) (.t rfl))<| .cons (.extract (l1 rfl) (.t rfl) rfl)<| .cons (.extract (l1 rfl) (.t rfl) rfl)<| .cons (.assign (l1 rfl) (.t rfl))<| .cons (.assign (l1 rfl) (.t rfl))<| .nil _ _ _) ?_
  refine AWP.vs ⟨[(6,rW false y_3.1 eW),(7,bW y_3.2)],[]⟩ rfl rfl ?_
  refine AWP.seq ?_
  refine AWP.seq ?_
  refine AWP.rg (.cons (.move (l1 rfl) (.t rfl))<| .nil _ _ _) ?_
  refine AWP.vs ⟨[(6,rW false y_3.1 eW),(22,bW y_3.2)],[]⟩ rfl rfl ?_
  refine AWP.cond (.t rfl) (fun hc => ?_) (fun hc => ?_)
  ·have h := iteT hc h
   refine AWP.seq ?_
   refine AWP.rg (.cons (.move (l1 rfl) (.t rfl))<| .cons (.assign (l1 rfl) (.t rfl))<| .cons (.assign (l1 rfl) (.const _ _ _))<| .nil _ _ _) ?_
   refine AWP.ret ?_
   obtain rfl := Option.some.inj h
   refine retJ (Res.vc (s' := ⟨[(4,rW false y_3.1 eW),(5,iW (21 : Int))],[]⟩) (VC.sub (.of rfl) (.n _)) ?_)
   refine Res.drop (H := []) rfl ?_
   exact Res.of rfl (.cons (.tmp rfl) (.cons (.tmp rfl) (.nil))) rfl rfl
  ·have h := iteF hc h
   refine AWP.skip ?_
   refine AWP.seq ?_
   refine AWP.rg (.cons (.assign (l1 rfl) (.const _ _ _))<| .cons (.assign (l1 rfl) (.const _ _ _))<| .nil _ _ _) ?_
   refine AWP.ret ?_
   obtain rfl := Option.some.inj h
   refine retJ (Res.vc (s' := ⟨[(4,rW false ([] : List Int) eW),(5,iW (0 : Int))],[]⟩) (VC.trans (VC.nilRd (d := 4) false rfl) (VC.sub (.of rfl) (.n _))) ?_)
   refine Res.drop (H := []) rfl ?_
   exact Res.of rfl (.cons (.tmp rfl) (.cons (.tmp rfl) (.nil))) rfl rfl
theorem c12 {β2 : Bool} {β3 : Bool} {β4 : Bool} (n : Nat) (a0 : (List R63)) (a1 : Bool) (a2 : R44) {r : Bool} (h : m12 n a0 a1 a2 = some r) : Spec Tryz.prog 12 [] [rW false a0 e63,bW a1,.agg [rW β2 a2.Order eW,iW a2.Value,iW a2.Proof.Sp,rW β3 a2.Proof.Kd encK40,rW β4 a2.Proof.Lf eW]] [] (bW r) [] := by
 refine Spec.of (fn := Tryz.f12) Tryz.func12 Tryz.ntmps12 rfl rfl (le1 rfl) (fun w0 Zs Zb T0 ι0 => ?_)
 unfold m12 at h
 refine AWP.seq ?_
 refine AWP.rg (.cons (.box (t := 1) (n := 5) (l1 rfl) (nm rfl) (.t rfl) (by first | exact ⟨rfl,rfl⟩ | rfl) rfl)<| .cons (.assign (l1 rfl) (.const _ _ _))<| .nil _ _ _) ?_
 refine AWP.vs ⟨[(0,rW false a0 e63),(1,bW a1),(5,.ptr 1 0)],[(1,⟨45,false,[rW β2 a2.Order eW,iW a2.Value,iW a2.Proof.Sp,rW β3 a2.Proof.Kd encK40,rW β4 a2.Proof.Lf eW]⟩)]⟩ rfl rfl ?_
 refine AWP.seq ?_
 refine AWP.seq ?_
 obtain ⟨y_1,hy_1,h⟩ := bindS h
 obtain ⟨y_2,hy_2,h⟩ := bindS h
 obtain ⟨t36_3,ht36_3,h⟩ := letS h
 refine AWP.draw (s' := ⟨[(0,rW false a0 e63),(1,bW a1),(5,.ptr 1 0),(36,bW ((((!decide (y_1 = (0 : Int))) || (decide ((a0.length : Int) = (0 : Int)))) || (!decide ((a2.Order.length : Int) = (a0.length : Int)))) || (!decide (y_2 = a2.Value))))],[(1,⟨45,false,[rW β2 a2.Order eW,iW a2.Value,iW a2.Proof.Sp,rW β3 a2.Proof.Kd encK40,rW β4 a2.Proof.Lf eW]⟩)]⟩) mixed [⟨0,rW false a0 e63,none,[]⟩,⟨1,bW a1,none,[]⟩,⟨5,.ptr 1 0,none,[]⟩,⟨9,rW false a0 e63,some 0,[]⟩,⟨10,.ptr 1 (0 + 0),some 1,[]⟩,⟨11,rW β2 a2.Order eW,some 2,[]⟩,⟨12,iW y_1,some 3,[]⟩,⟨13,bW (!decide (y_1 = (0 : Int))),some 4,[]⟩,⟨14,bW (!decide (y_1 = (0 : Int))),some 5,[]⟩,⟨15,.gd (!(!decide (y_1 = (0 : Int)))) (rW false a0 e63),some 6,[]⟩,⟨16,.gd (!(!decide (y_1 = (0 : Int)))) (iW (a0.length : Int)),some 7,[]⟩,⟨17,.gd (!(!decide (y_1 = (0 : Int)))) (bW (decide ((a0.length : Int) = (0 : Int)))),some 8,[]⟩,⟨18,bW ((!decide (y_1 = (0 : Int))) || (decide ((a0.length : Int) = (0 : Int)))),some 9,[]⟩,⟨19,bW ((!decide (y_1 = (0 : Int))) || (decide ((a0.length : Int) = (0 : Int)))),some 10,[]⟩,⟨20,.gd (!((!decide (y_1 = (0 : Int))) || (decide ((a0.length : Int) = (0 : Int))))) (.ptr 1 (0 + 0)),some 11,[]⟩,⟨21,.gd (!((!decide (y_1 = (0 : Int))) || (decide ((a0.length : Int) = (0 : Int))))) (rW β2 a2.Order eW),some 12,[]⟩,⟨22,.gd (!((!decide (y_1 = (0 : Int))) || (decide ((a0.length : Int) = (0 : Int))))) (iW (a2.Order.length : Int)),some 13,[]⟩,⟨23,.gd (!((!decide (y_1 = (0 : Int))) || (decide ((a0.length : Int) = (0 : Int))))) (rW false a0 e63),some 14,[]⟩,⟨24,.gd (!((!decide (y_1 = (0 : Int))) || (decide ((a0.length : Int) = (0 : Int))))) (iW (a0.length : Int)),some 15,[]⟩,⟨25,.gd (!((!decide (y_1 = (0 : Int))) || (decide ((a0.length : Int) = (0 : Int))))) (bW (!decide ((a2.Order.length : Int) = (a0.length : Int)))),some 16,[]⟩,⟨26,bW (((!decide (y_1 = (0 : Int))) || (decide ((a0.length : Int) = (0 : Int)))) || (!decide ((a2.Order.length : Int) = (a0.length : Int)))),some 17,[]⟩,⟨27,bW (((!decide (y_1 = (0 : Int))) || (decide ((a0.length : Int) = (0 : Int)))) || (!decide ((a2.Order.length : Int) = (a0.length : Int)))),some 18,[]⟩,⟨28,.gd (!(((!decide (y_1 = (0 : Int))) || (decide ((a0.length : Int) = (0 : Int)))) || (!decide ((a2.Order.length : Int) = (a0.length : Int))))) (rW false a0 e63),some 19,[]⟩,⟨29,.gd (!(((!decide (y_1 = (0 : Int))) || (decide ((a0.length : Int) = (0 : Int)))) || (!decide ((a2.Order.length : Int) = (a0.length : Int))))) (.ptr 1 (0 + 0)),some 20,[]⟩,⟨30,.gd (!(((!decide (y_1 = (0 : Int))) || (decide ((a0.length : Int) = (0 : Int)))) || (!decide ((a2.Order.length : Int) = (a0.length : Int))))) (rW β2 a2.Order eW),some 21,[]⟩,⟨31,.gd (!(((!decide (y_1 = (0 : Int))) || (decide ((a0.length : Int) = (0 : Int)))) || (!decide ((a2.Order.length : Int) = (a0.length : Int))))) (bW a1),some 22,[]⟩,⟨32,.gd (!(((!decide (y_1 = (0 : Int))) || (decide ((a0.length : Int) = (0 : Int)))) || (!decide ((a2.Order.length : Int) = (a0.length : Int))))) (iW y_2),some 23,[]⟩,⟨33,.gd (!(((!decide (y_1 = (0 : Int))) || (decide ((a0.length : Int) = (0 : Int)))) || (!decide ((a2.Order.length : Int) = (a0.length : Int))))) (.ptr 1 (0 + 1)),some 24,[]⟩,⟨34,.gd (!(((!decide (y_1 = (0 : Int))) || (decide ((a0.length : Int) = (0 : Int)))) || (!decide ((a2.Order.length : Int) = (a0.length : Int))))) (iW a2.Value),some 25,[]⟩,⟨35,.gd (!(((!decide (y_1 = (0 : Int))) || (decide ((a0.length : Int) = (0 : Int)))) || (!decide ((a2.Order.length : Int) = (a0.length : Int))))) (bW (!decide (y_2 = a2.Value))),some 26,[]⟩,⟨36,bW ((((!decide (y_1 = (0 : Int))) || (decide ((a0.length : Int) = (0 : Int)))) || (!decide ((a2.Order.length : Int) = (a0.length : Int)))) || (!decide (y_2 = a2.Value))),some 27,[]⟩] [⟨[0],0,0,some (9,rW false a0 e63),[]⟩,⟨[2],0,0,some (10,.ptr 1 (0 + 0)),[]⟩,⟨[4],0,0,some (11,rW β2 a2.Order eW),[]⟩,⟨[3,5],0,0,some (12,iW y_1),[]⟩,⟨[6],0,0,some (13,bW (!decide (y_1 = (0 : Int)))),[]⟩,⟨[7],0,0,some (14,bW (!decide (y_1 = (0 : Int)))),[]⟩,⟨[8,0],0,0,some (15,.gd (!(!decide (y_1 = (0 : Int)))) (rW false a0 e63)),[]⟩,⟨[8,9],0,0,some (16,.gd (!(!decide (y_1 = (0 : Int)))) (iW (a0.length : Int))),[]⟩,⟨[8,10],0,0,some (17,.gd (!(!decide (y_1 = (0 : Int)))) (bW (decide ((a0.length : Int) = (0 : Int))))),[]⟩,⟨[8,11],0,0,some (18,bW ((!decide (y_1 = (0 : Int))) || (decide ((a0.length : Int) = (0 : Int))))),[]⟩,⟨[12],0,0,some (19,bW ((!decide (y_1 = (0 : Int))) || (decide ((a0.length : Int) = (0 : Int))))),[]⟩,⟨[13,2],0,0,some (20,.gd (!((!decide (y_1 = (0 : Int))) || (decide ((a0.length : Int) = (0 : Int))))) (.ptr 1 (0 + 0))),[]⟩,⟨[13,14],0,0,some (21,.gd (!((!decide (y_1 = (0 : Int))) || (decide ((a0.length : Int) = (0 : Int))))) (rW β2 a2.Order eW)),[]⟩,⟨[13,15],0,0,some (22,.gd (!((!decide (y_1 = (0 : Int))) || (decide ((a0.length : Int) = (0 : Int))))) (iW (a2.Order.length : Int))),[]⟩,⟨[13,0],0,0,some (23,.gd (!((!decide (y_1 = (0 : Int))) || (decide ((a0.length : Int) = (0 : Int))))) (rW false a0 e63)),[]⟩,⟨[13,17],0,0,some (24,.gd (!((!decide (y_1 = (0 : Int))) || (decide ((a0.length : Int) = (0 : Int))))) (iW (a0.length : Int))),[]⟩,⟨[13,16,18],0,0,some (25,.gd (!((!decide (y_1 = (0 : Int))) || (decide ((a0.length : Int) = (0 : Int))))) (bW (!decide ((a2.Order.length : Int) = (a0.length : Int))))),[]⟩,⟨[13,19],0,0,some (26,bW (((!decide (y_1 = (0 : Int))) || (decide ((a0.length : Int) = (0 : Int)))) || (!decide ((a2.Order.length : Int) = (a0.length : Int))))),[]⟩,⟨[20],0,0,some (27,bW (((!decide (y_1 = (0 : Int))) || (decide ((a0.length : Int) = (0 : Int)))) || (!decide ((a2.Order.length : Int) = (a0.length : Int))))),[]⟩,⟨[21,0],0,0,some (28,.gd (!(((!decide (y_1 = (0 : Int))) || (decide ((a0.length : Int) = (0 : Int)))) || (!decide ((a2.Order.length : Int) = (a0.length : Int))))) (rW false a0 e63)),[]⟩,⟨[21,2],0,0,some (29,.gd (!(((!decide (y_1 = (0 : Int))) || (decide ((a0.length : Int) = (0 : Int)))) || (!decide ((a2.Order.length : Int) = (a0.length : Int))))) (.ptr 1 (0 + 0))),[]⟩,⟨[21,23],0,0,some (30,.gd (!(((!decide (y_1 = (0 : Int))) || (decide ((a0.length : Int) = (0 : Int)))) || (!decide ((a2.Order.length : Int) = (a0.length : Int))))) (rW β2 a2.Order eW)),[]⟩,⟨[21,1],0,0,some (31,.gd (!(((!decide (y_1 = (0 : Int))) || (decide ((a0.length : Int) = (0 : Int)))) || (!decide ((a2.Order.length : Int) = (a0.length : Int))))) (bW a1)),[]⟩,⟨[21,22,24,25],0,0,some (32,.gd (!(((!decide (y_1 = (0 : Int))) || (decide ((a0.length : Int) = (0 : Int)))) || (!decide ((a2.Order.length : Int) = (a0.length : Int))))) (iW y_2)),[]⟩,⟨[21,2],0,0,some (33,.gd (!(((!decide (y_1 = (0 : Int))) || (decide ((a0.length : Int) = (0 : Int)))) || (!decide ((a2.Order.length : Int) = (a0.length : Int))))) (.ptr 1 (0 + 1))),[]⟩,⟨[21,27],0,0,some (34,.gd (!(((!decide (y_1 = (0 : Int))) || (decide ((a0.length : Int) = (0 : Int)))) || (!decide ((a2.Order.length : Int) = (a0.length : Int))))) (iW a2.Value)),[]⟩,⟨[21,26,28],0,0,some (35,.gd (!(((!decide (y_1 = (0 : Int))) || (decide ((a0.length : Int) = (0 : Int)))) || (!decide ((a2.Order.length : Int) = (a0.length : Int))))) (bW (!decide (y_2 = a2.Value)))),[]⟩,⟨[21,29],0,0,some (36,bW ((((!decide (y_1 = (0 : Int))) || (decide ((a0.length : Int) = (0 : Int)))) || (!decide ((a2.Order.length : Int) = (a0.length : Int)))) || (!decide (y_2 = a2.Value)))),[]⟩] [] [[(1,⟨45,false,[rW β2 a2.Order eW,iW a2.Value,iW a2.Proof.Sp,rW β3 a2.Proof.Kd encK40,rW β4 a2.Proof.Lf eW]⟩)]] [[],[],[1],[0,1,2],[0,1,2,3],[0,1,2,3,4],[0,1,2,3,4,5],[0,1,2,3,4,5,6],[0,1,2,3,4,5,6,7],[0,1,2,3,4,5,6,7,8],[0,1,2,3,4,5,6,7,8,9],[0,1,2,3,4,5,6,7,8,9,10],[0,1,2,3,4,5,6,7,8,9,10,11],[0,1,2,3,4,5,6,7,8,9,10,11,12],[0,1,2,3,4,5,6,7,8,9,10],[0,1,2,3,4,5,6,7,8,9,10,14],[0,1,2,3,4,5,6,7,8,9,10,11,12,13,14,15],[0,1,2,3,4,5,6,7,8,9,10,11,12,13,14,15,16],[0,1,2,3,4,5,6,7,8,9,10,11,12,13,14,15,16,17],[0,1,2,3,4,5,6,7,8,9,10,11,12,13,14,15,16,17,18],[0,1,2,3,4,5,6,7,8,9,10,11,12,13,14,15,16,17,18],[0,1,2,3,4,5,6,7,8,9,10,11,12,13,14,15,16,17,18,20],[0,1,2,3,4,5,6,7,8,9,10,11,12,13,14,15,16,17,18],[0,1,2,3,4,5,6,7,8,9,10,11,12,13,14,15,16,17,18,19,20,21,22],[0,1,2,3,4,5,6,7,8,9,10,11,12,13,14,15,16,17,18],[0,1,2,3,4,5,6,7,8,9,10,11,12,13,14,15,16,17,18,24],[0,1,2,3,4,5,6,7,8,9,10,11,12,13,14,15,16,17,18,19,20,21,22,23,24,25],[0,1,2,3,4,5,6,7,8,9,10,11,12,13,14,15,16,17,18,19,20,21,22,23,24,25,26]] (by kernel_rfl) (by kernel_rfl) (BornL.ok (.o<| .o<| .o<| .b rfl rfl<| .b rfl rfl<| .b rfl rfl<| .b rfl rfl<| .b rfl rfl<| .b rfl rfl<| .b rfl rfl<| .b rfl rfl<| .b rfl rfl<| .b rfl rfl<| .b rfl rfl<| .b rfl rfl<| .b rfl rfl<| .b rfl rfl<| .b rfl rfl<| .b rfl rfl<| .b rfl rfl<| .b rfl rfl<| .b rfl rfl<| .b rfl rfl<| .b rfl rfl<| .b rfl rfl<| .b rfl rfl<| .b rfl rfl<| .b rfl rfl<| .b rfl rfl<| .b rfl rfl<| .b rfl rfl<| .n)) (BaseL.ok (.o rfl<| .o rfl<| .o rfl<| .b<| .b<| .b<| .b<| .b<| .b<| .b<| .b<| .b<| .b<| .b<| .b<| .b<| .b<| .b<| .b<| .b<| .b<| .b<| .b<| .b<| .b<| .b<| .b<| .b<| .b<| .b<| .b<| .n)) rfl (by decide) (allLt rfl) (.pure rfl (fun H => .put (fun E hE => .move (l1 rfl) (hE.t 0 rfl)))<| .read rfl (.c (.put (fun E hE => .fieldP (l1 rfl) (hE.t 0 rfl) fld45_0)) .n)<| .read rfl (.c (.put (fun E hE => .loadP (l1 rfl) (hE.t 0 rfl) one23 rfl rfl rfl)) .n)<| .pure rfl (fun H => .put (fun E hE => .call0 (bw := false) (l1 rfl) (c34 (β1 := false) (β2 := β2) n a0 a2.Order hy_1) (.cons (hE.t 0 rfl) (.ren rfl) (.cons (hE.t 1 rfl) (.ren rfl) (.nil))) rfl))<| .pure rfl (fun H => .put (fun E hE => .neq (l1 rfl) (hE.t 0 rfl) (.const _ _ _)))<| .pure rfl (fun H => .put (fun E hE => .move (l1 rfl) (hE.t 0 rfl)))<| .pure rfl (fun H => .gput (b := (!decide (y_1 = (0 : Int)))) (want := false) (j := 5) (dj := 14) rfl (l1 rfl) (l1 rfl) (fun E hE => hE.at (k := 0) rfl) (fun hg E hE => .move (l1 rfl) (hE.t 1 rfl)))<| .pure rfl (fun H => .gput (b := (!decide (y_1 = (0 : Int)))) (want := false) (j := 5) (dj := 14) rfl (l1 rfl) (l1 rfl) (fun E hE => hE.at (k := 0) rfl) (fun hg E hE => .lenRd (l1 rfl) (.gd hg (hE.t 1 rfl)) Tryz.underlying35))<| .pure rfl (fun H => .gput (b := (!decide (y_1 = (0 : Int)))) (want := false) (j := 5) (dj := 14) rfl (l1 rfl) (l1 rfl) (fun E hE => hE.at (k := 0) rfl) (fun hg E hE => .eql (l1 rfl) (.gd hg (hE.t 1 rfl)) (.const _ _ _)))<| .pure rfl (fun H => .put (fun E hE => .pickOr (l1 rfl) (hE.t 0 rfl) (.const _ _ _) (hE.t 1 rfl)))<| .pure rfl (fun H => .put (fun E hE => .move (l1 rfl) (hE.t 0 rfl)))<| .read rfl (.c (.gput (b := ((!decide (y_1 = (0 : Int))) || (decide ((a0.length : Int) = (0 : Int))))) (want := false) (j := 10) (dj := 19) rfl (l1 rfl) (l1 rfl) (fun E hE => hE.at (k := 0) rfl) (fun hg E hE => .fieldP (l1 rfl) (hE.t 1 rfl) fld45_0)) .n)<| .read rfl (.c (.gput (b := ((!decide (y_1 = (0 : Int))) || (decide ((a0.length : Int) = (0 : Int))))) (want := false) (j := 10) (dj := 19) rfl (l1 rfl) (l1 rfl) (fun E hE => hE.at (k := 0) rfl) (fun hg E hE => .loadP (l1 rfl) (.gd hg (hE.t 1 rfl)) one23 rfl rfl rfl)) .n)<| .pure rfl (fun H => .gput (b := ((!decide (y_1 = (0 : Int))) || (decide ((a0.length : Int) = (0 : Int))))) (want := false) (j := 10) (dj := 19) rfl (l1 rfl) (l1 rfl) (fun E hE => hE.at (k := 0) rfl) (fun hg E hE => .lenRd (l1 rfl) (.gd hg (hE.t 1 rfl)) Tryz.underlying23))<| .pure rfl (fun H => .gput (b := ((!decide (y_1 = (0 : Int))) || (decide ((a0.length : Int) = (0 : Int))))) (want := false) (j := 10) (dj := 19) rfl (l1 rfl) (l1 rfl) (fun E hE => hE.at (k := 0) rfl) (fun hg E hE => .move (l1 rfl) (hE.t 1 rfl)))<| .pure rfl (fun H => .gput (b := ((!decide (y_1 = (0 : Int))) || (decide ((a0.length : Int) = (0 : Int))))) (want := false) (j := 10) (dj := 19) rfl (l1 rfl) (l1 rfl) (fun E hE => hE.at (k := 0) rfl) (fun hg E hE => .lenRd (l1 rfl) (.gd hg (hE.t 1 rfl)) Tryz.underlying35))<| .pure rfl (fun H => .gput (b := ((!decide (y_1 = (0 : Int))) || (decide ((a0.length : Int) = (0 : Int))))) (want := false) (j := 10) (dj := 19) rfl (l1 rfl) (l1 rfl) (fun E hE => hE.at (k := 0) rfl) (fun hg E hE => .neq (l1 rfl) (.gd hg (hE.t 1 rfl)) (.gd hg (hE.t 2 rfl))))<| .pure rfl (fun H => .put (fun E hE => .pickOr (l1 rfl) (hE.t 0 rfl) (.const _ _ _) (hE.t 1 rfl)))<| .pure rfl (fun H => .put (fun E hE => .move (l1 rfl) (hE.t 0 rfl)))<| .pure rfl (fun H => .gput (b := (((!decide (y_1 = (0 : Int))) || (decide ((a0.length : Int) = (0 : Int)))) || (!decide ((a2.Order.length : Int) = (a0.length : Int))))) (want := false) (j := 18) (dj := 27) rfl (l1 rfl) (l1 rfl) (fun E hE => hE.at (k := 0) rfl) (fun hg E hE => .move (l1 rfl) (hE.t 1 rfl)))<| .read rfl (.c (.gput (b := (((!decide (y_1 = (0 : Int))) || (decide ((a0.length : Int) = (0 : Int)))) || (!decide ((a2.Order.length : Int) = (a0.length : Int))))) (want := false) (j := 18) (dj := 27) rfl (l1 rfl) (l1 rfl) (fun E hE => hE.at (k := 0) rfl) (fun hg E hE => .fieldP (l1 rfl) (hE.t 1 rfl) fld45_0)) .n)<| .read rfl (.c (.gput (b := (((!decide (y_1 = (0 : Int))) || (decide ((a0.length : Int) = (0 : Int)))) || (!decide ((a2.Order.length : Int) = (a0.length : Int))))) (want := false) (j := 18) (dj := 27) rfl (l1 rfl) (l1 rfl) (fun E hE => hE.at (k := 0) rfl) (fun hg E hE => .loadP (l1 rfl) (.gd hg (hE.t 1 rfl)) one23 rfl rfl rfl)) .n)<| .pure rfl (fun H => .gput (b := (((!decide (y_1 = (0 : Int))) || (decide ((a0.length : Int) = (0 : Int)))) || (!decide ((a2.Order.length : Int) = (a0.length : Int))))) (want := false) (j := 18) (dj := 27) rfl (l1 rfl) (l1 rfl) (fun E hE => hE.at (k := 0) rfl) (fun hg E hE => .move (l1 rfl) (hE.t 1 rfl)))<| .pure rfl (fun H => .gput (b := (((!decide (y_1 = (0 : Int))) || (decide ((a0.length : Int) = (0 : Int)))) || (!decide ((a2.Order.length : Int) = (a0.length : Int))))) (want := false) (j := 18) (dj := 27) rfl (l1 rfl) (l1 rfl) (fun E hE => hE.at (k := 0) rfl) (fun hg E hE => .call0 (bw := false) (l1 rfl) (c35 (β1 := false) (β2 := β2) n a0 a2.Order a1 (gdB hy_2 hg)) (.cons (.gd hg (hE.t 1 rfl)) (.ren rfl) (.cons (.gd hg (hE.t 2 rfl)) (.ren rfl) (.cons (.gd hg (hE.t 3 rfl)) (.ren rfl) (.nil)))) rfl))<| .read rfl (.c (.gput (b := (((!decide (y_1 = (0 : Int))) || (decide ((a0.length : Int) = (0 : Int)))) || (!decide ((a2.Order.length : Int) = (a0.length : Int))))) (want := false) (j := 18) (dj := 27) rfl (l1 rfl) (l1 rfl) (fun E hE => hE.at (k := 0) rfl) (fun hg E hE => .fieldP (l1 rfl) (hE.t 1 rfl) fld45_1)) .n)<| .read rfl (.c (.gput (b := (((!decide (y_1 = (0 : Int))) || (decide ((a0.length : Int) = (0 : Int)))) || (!decide ((a2.Order.length : Int) = (a0.length : Int))))) (want := false) (j := 18) (dj := 27) rfl (l1 rfl) (l1 rfl) (fun E hE => hE.at (k := 0) rfl) (fun hg E hE => .loadP (l1 rfl) (.gd hg (hE.t 1 rfl)) one3 rfl rfl rfl)) .n)<| .pure rfl (fun H => .gput (b := (((!decide (y_1 = (0 : Int))) || (decide ((a0.length : Int) = (0 : Int)))) || (!decide ((a2.Order.length : Int) = (a0.length : Int))))) (want := false) (j := 18) (dj := 27) rfl (l1 rfl) (l1 rfl) (fun E hE => hE.at (k := 0) rfl) (fun hg E hE => .neq (l1 rfl) (.gd hg (hE.t 1 rfl)) (.gd hg (hE.t 2 rfl))))<| .pure rfl (fun H => .put (fun E hE => .pickOr (l1 rfl) (hE.t 0 rfl) (.const _ _ _) (hE.t 1 rfl)))<| .nil _) (fun E hE => .c (DInv.at hE (k := 0) rfl rfl rfl)<| .c (DInv.at hE (k := 1) rfl rfl rfl)<| .c (DInv.at hE (k := 2) rfl rfl rfl)<| .c (DInv.at hE (k := 30) rfl rfl rfl)<| .n _) rfl ?_
 refine AWP.vc (s' := ⟨[(0,rW false a0 e63),(1,bW a1),(5,.ptr 1 0),(36,bW t36_3)],[(1,⟨45,false,[rW β2 a2.Order eW,iW a2.Value,iW a2.Proof.Sp,rW β3 a2.Proof.Kd encK40,rW β4 a2.Proof.Lf eW]⟩)]⟩) (by subst ht36_3; exact VC.sub (.of rfl) (.of rfl)) ?_
 refine AWP.cond (.t rfl) (fun hc => ?_) (fun hc => ?_)
 ·have h := iteT hc h
  refine AWP.seq ?_
  refine AWP.rg (.cons (.assign (l1 rfl) (.const _ _ _))<| .nil _ _ _) ?_
  refine AWP.ret ?_
  obtain rfl := Option.some.inj h
  refine retJ (Res.vc (s' := ⟨[(6,bW false)],[]⟩) (VC.sub (.of rfl) (.n _)) ?_)
  refine Res.drop (H := []) rfl ?_
  exact Res.of rfl (.cons (.tmp rfl) (.nil)) rfl rfl
 ·have h := iteF hc h
  refine AWP.skip ?_
  refine AWP.seq ?_
  obtain ⟨y_4,hy_4,h⟩ := bindS h
  refine AWP.rg (.cons (.move (l1 rfl) (.t rfl))<| .cons (.move (l1 rfl) (.t rfl))<| .cons (.fieldP (l1 rfl) (.t rfl) fld45_1)<| .cons (.loadP (l1 rfl) (.t rfl) one3 rfl rfl rfl)<| .cons (.buildO (offs := [(0,1),(1,1),(2,1),(3,1)]) (l1 rfl) (.cons (.t rfl) (by first | exact ⟨rfl,rfl⟩ | rfl) (.cons (.t rfl) (by first | exact ⟨rfl,rfl⟩ | rfl) (.cons (.t rfl) (by first | exact ⟨rfl,rfl⟩ | rfl) (.nil)))) zero37 offs37 rfl)<| .cons (.fieldP (l1 rfl) (.t rfl) fld45_2)<| .cons (.loadPA (l1 rfl) (.t rfl) agg41 rfl rfl rfl rfl)<| .cons (.call0 (bw := false) (l1 rfl) (c7 (β2 := false) (β3 := β3) (β4 := β4) n (R36.mk a0 ([] : List Int) a1 a2.Value) (R40.mk a2.Proof.Sp a2.Proof.Kd a2.Proof.Lf) hy_4) (.cons (.t rfl) (.agg (.cons (.ren rfl) (.cons (.nil) (.cons (.ren rfl) (.cons (.ren rfl) (.nil)))))) (.cons (.t rfl) (.ren rfl) (.nil))) rfl)<| .cons (.move (l1 rfl) (.t rfl))<| .cons (.extract (l1 rfl) (.t rfl) rfl)<| .cons (.extract (l1 rfl) (.t rfl) rfl)<| .cons (.assign (l1 rfl) (.t rfl))<| .cons (.assign (l1 rfl) (.t rfl))<| .nil _ _ _) ?_
  refine AWP.vs ⟨[(8,iW y_4.2)],[]⟩ rfl rfl ?_
  refine AWP.seq ?_
  refine AWP.rg (.cons (.move (l1 rfl) (.t rfl))<| .cons (.eql (l1 rfl) (.t rfl) (.const _ _ _))<| .cons (.assign (l1 rfl) (.t rfl))<| .nil _ _ _) ?_
  refine AWP.ret ?_
  obtain rfl := Option.some.inj h
  refine retJ (Res.vc (s' := ⟨[(6,bW (decide (y_4.2 = (0 : Int))))],[]⟩) (VC.sub (.of rfl) (.n _)) ?_)
  refine Res.drop (H := []) rfl ?_
  exact Res.of rfl (.cons (.tmp rfl) (.nil)) rfl rfl
theorem c15 {β1 : Bool} {β2 : Bool} (n : Nat) (a0 : (List R63)) (a1 : (List Int)) (a2 : Bool) {r : Int} (h : m15 n a0 a1 a2 = some r) : Spec Tryz.prog 15 [] [rW β1 a0 e63,rW β2 a1 eW,bW a2] [] (iW r) [] := by
 refine Spec.of (fn := Tryz.f15) Tryz.func15 Tryz.ntmps15 rfl rfl (le1 rfl) (fun w0 Zs Zb T0 ι0 => ?_)
 unfold m15 at h
 refine AWP.seq ?_
 refine AWP.rg (.cons (.assign (l1 rfl) (.const _ _ _))<| .nil _ _ _) ?_
 refine AWP.vs ⟨[(0,rW β1 a0 e63),(1,rW β2 a1 eW),(2,bW a2)],[]⟩ rfl rfl ?_
 refine AWP.seq ?_
 obtain ⟨y_1,hy_1,h⟩ := bindS h
 refine AWP.rg (.cons (.move (l1 rfl) (.t rfl))<| .cons (.move (l1 rfl) (.t rfl))<| .cons (.call0 (bw := false) (l1 rfl) (c37 (β1 := β1) (β2 := β2) n a0 a1 hy_1) (.cons (.t rfl) (.ren rfl) (.cons (.t rfl) (.ren rfl) (.nil))) rfl)<| .cons (.move (l1 rfl) (.t rfl))<| .cons (.extract (l1 rfl) (.t rfl) rfl)<| .cons (.extract (l1 rfl) (.t rfl) rfl)<| .cons (.assign (l1 rfl) (.t rfl))<| .cons (.assign (l1 rfl) (.t rfl))<| .nil _ _ _) ?_
 refine AWP.vs ⟨[(0,rW β1 a0 e63),(1,rW β2 a1 eW),(2,bW a2),(7,iW y_1.1)],[]⟩ rfl rfl ?_
 refine AWP.seq ?_
 refine AWP.seq ?_
 refine AWP.rg (.cons (.move (l1 rfl) (.t rfl))<| .nil _ _ _) ?_
 refine AWP.vs ⟨[(0,rW β1 a0 e63),(1,rW β2 a1 eW),(7,iW y_1.1),(15,bW a2)],[]⟩ rfl rfl ?_
 refine AWP.join' (S := fun p_3 : Int => ⟨[(7,iW p_3)],[]⟩) h (fun p_3 h => ?_) (fun k_4 h => ?_)
 ·refine AWP.seq ?_
  refine AWP.rg (.cons (.move (l1 rfl) (.t rfl))<| .cons (.assign (l1 rfl) (.t rfl))<| .nil _ _ _) ?_
  refine AWP.ret ?_
  obtain rfl := Option.some.inj h
  refine retJ (Res.vc (s' := ⟨[(6,iW p_3)],[]⟩) (VC.sub (.of rfl) (.n _)) ?_)
  refine Res.drop (H := []) rfl ?_
  exact Res.of rfl (.cons (.tmp rfl) (.nil)) rfl rfl
 ·refine AWP.cond (.t rfl) (fun hc => ?_) (fun hc => ?_)
  ·have h := iteT hc h
   obtain ⟨y_2,hy_2,h⟩ := bindS h
   refine AWP.rg (.cons (.move (l1 rfl) (.t rfl))<| .cons (.move (l1 rfl) (.t rfl))<| .cons (.call0 (bw := false) (l1 rfl) (c38 (β1 := β1) (β2 := β2) n a0 a1 hy_2) (.cons (.t rfl) (.ren rfl) (.cons (.t rfl) (.ren rfl) (.nil))) rfl)<| .cons (.move (l1 rfl) (.t rfl))<| .cons (.extract (l1 rfl) (.t rfl) rfl)<| .cons (.extract (l1 rfl) (.t rfl) rfl)<| .cons (.assign (l1 rfl) (.t rfl))<| .nil _ _ _) ?_
   exact endJ y_2.1 h (VC.sub (.of rfl) (.n _))
  ·have h := iteF hc h
   refine AWP.skip ?_
   exact endJ y_1.1 h (VC.sub (.of rfl) (.n _))
theorem c14 {β2 : Bool} {β3 : Bool} {β4 : Bool} (n : Nat) (a0 : (List R63)) (a1 : Bool) (a2 : R46) {r : Bool} (h : m14 n a0 a1 a2 = some r) : Spec Tryz.prog 14 [] [rW false a0 e63,bW a1,.agg [rW β2 a2.Order eW,iW a2.Value,iW a2.Proof.Sp,rW β3 a2.Proof.Kd encK27,rW β4 a2.Proof.Lf eW]] [] (bW r) [] := by
 refine Spec.of (fn := Tryz.f14) Tryz.func14 Tryz.ntmps14 rfl rfl (le1 rfl) (fun w0 Zs Zb T0 ι0 => ?_)
 unfold m14 at h
 refine AWP.seq ?_
 refine AWP.rg (.cons (.box (t := 1) (n := 5) (l1 rfl) (nm rfl) (.t rfl) (by first | exact ⟨rfl,rfl⟩ | rfl) rfl)<| .cons (.assign (l1 rfl) (.const _ _ _))<| .nil _ _ _) ?_
 refine AWP.vs ⟨[(0,rW false a0 e63),(1,bW a1),(5,.ptr 1 0)],[(1,⟨47,false,[rW β2 a2.Order eW,iW a2.Value,iW a2.Proof.Sp,rW β3 a2.Proof.Kd encK27,rW β4 a2.Proof.Lf eW]⟩)]⟩ rfl rfl ?_
 refine AWP.seq ?_
 refine AWP.seq ?_
 obtain ⟨y_1,hy_1,h⟩ := bindS h
 obtain ⟨y_2,hy_2,h⟩ := bindS h
 obtain ⟨y_3,hy_3,h⟩ := bindS h
 refine AWP.draw (s' := ⟨[(0,rW false a0 e63),(1,bW a1),(5,.ptr 1 0),(41,bW (((((!y_1) || (decide ((a0.length : Int) = (0 : Int)))) || (!decide ((a2.Order.length : Int) = (a0.length : Int)))) || (!y_2)) || (!decide (y_3 = a2.Value))))],[(1,⟨47,false,[rW β2 a2.Order eW,iW a2.Value,iW a2.Proof.Sp,rW β3 a2.Proof.Kd encK27,rW β4 a2.Proof.Lf eW]⟩)]⟩) mixed [⟨0,rW false a0 e63,none,[]⟩,⟨1,bW a1,none,[]⟩,⟨5,.ptr 1 0,none,[]⟩,⟨9,rW false a0 e63,some 0,[]⟩,⟨10,bW y_1,some 1,[]⟩,⟨11,bW (!y_1),some 2,[]⟩,⟨12,bW (!y_1),some 3,[]⟩,⟨13,.gd (!(!y_1)) (rW false a0 e63),some 4,[]⟩,⟨14,.gd (!(!y_1)) (iW (a0.length : Int)),some 5,[]⟩,⟨15,.gd (!(!y_1)) (bW (decide ((a0.length : Int) = (0 : Int)))),some 6,[]⟩,⟨16,bW ((!y_1) || (decide ((a0.length : Int) = (0 : Int)))),some 7,[]⟩,⟨17,bW ((!y_1) || (decide ((a0.length : Int) = (0 : Int)))),some 8,[]⟩,⟨18,.gd (!((!y_1) || (decide ((a0.length : Int) = (0 : Int))))) (.ptr 1 (0 + 0)),some 9,[]⟩,⟨19,.gd (!((!y_1) || (decide ((a0.length : Int) = (0 : Int))))) (rW β2 a2.Order eW),some 10,[]⟩,⟨20,.gd (!((!y_1) || (decide ((a0.length : Int) = (0 : Int))))) (iW (a2.Order.length : Int)),some 11,[]⟩,⟨21,.gd (!((!y_1) || (decide ((a0.length : Int) = (0 : Int))))) (rW false a0 e63),some 12,[]⟩,⟨22,.gd (!((!y_1) || (decide ((a0.length : Int) = (0 : Int))))) (iW (a0.length : Int)),some 13,[]⟩,⟨23,.gd (!((!y_1) || (decide ((a0.length : Int) = (0 : Int))))) (bW (!decide ((a2.Order.length : Int) = (a0.length : Int)))),some 14,[]⟩,⟨24,bW (((!y_1) || (decide ((a0.length : Int) = (0 : Int)))) || (!decide ((a2.Order.length : Int) = (a0.length : Int)))),some 15,[]⟩,⟨25,bW (((!y_1) || (decide ((a0.length : Int) = (0 : Int)))) || (!decide ((a2.Order.length : Int) = (a0.length : Int)))),some 16,[]⟩,⟨26,.gd (!(((!y_1) || (decide ((a0.length : Int) = (0 : Int)))) || (!decide ((a2.Order.length : Int) = (a0.length : Int))))) (rW false a0 e63),some 17,[]⟩,⟨27,.gd (!(((!y_1) || (decide ((a0.length : Int) = (0 : Int)))) || (!decide ((a2.Order.length : Int) = (a0.length : Int))))) (.ptr 1 (0 + 0)),some 18,[]⟩,⟨28,.gd (!(((!y_1) || (decide ((a0.length : Int) = (0 : Int)))) || (!decide ((a2.Order.length : Int) = (a0.length : Int))))) (rW β2 a2.Order eW),some 19,[]⟩,⟨29,.gd (!(((!y_1) || (decide ((a0.length : Int) = (0 : Int)))) || (!decide ((a2.Order.length : Int) = (a0.length : Int))))) (bW y_2),some 20,[]⟩,⟨30,.gd (!(((!y_1) || (decide ((a0.length : Int) = (0 : Int)))) || (!decide ((a2.Order.length : Int) = (a0.length : Int))))) (bW (!y_2)),some 21,[]⟩,⟨31,bW ((((!y_1) || (decide ((a0.length : Int) = (0 : Int)))) || (!decide ((a2.Order.length : Int) = (a0.length : Int)))) || (!y_2)),some 22,[]⟩,⟨32,bW ((((!y_1) || (decide ((a0.length : Int) = (0 : Int)))) || (!decide ((a2.Order.length : Int) = (a0.length : Int)))) || (!y_2)),some 23,[]⟩,⟨33,.gd (!((((!y_1) || (decide ((a0.length : Int) = (0 : Int)))) || (!decide ((a2.Order.length : Int) = (a0.length : Int)))) || (!y_2))) (rW false a0 e63),some 24,[]⟩,⟨34,.gd (!((((!y_1) || (decide ((a0.length : Int) = (0 : Int)))) || (!decide ((a2.Order.length : Int) = (a0.length : Int)))) || (!y_2))) (.ptr 1 (0 + 0)),some 25,[]⟩,⟨35,.gd (!((((!y_1) || (decide ((a0.length : Int) = (0 : Int)))) || (!decide ((a2.Order.length : Int) = (a0.length : Int)))) || (!y_2))) (rW β2 a2.Order eW),some 26,[]⟩,⟨36,.gd (!((((!y_1) || (decide ((a0.length : Int) = (0 : Int)))) || (!decide ((a2.Order.length : Int) = (a0.length : Int)))) || (!y_2))) (bW a1),some 27,[]⟩,⟨37,.gd (!((((!y_1) || (decide ((a0.length : Int) = (0 : Int)))) || (!decide ((a2.Order.length : Int) = (a0.length : Int)))) || (!y_2))) (iW y_3),some 28,[]⟩,⟨38,.gd (!((((!y_1) || (decide ((a0.length : Int) = (0 : Int)))) || (!decide ((a2.Order.length : Int) = (a0.length : Int)))) || (!y_2))) (.ptr 1 (0 + 1)),some 29,[]⟩,⟨39,.gd (!((((!y_1) || (decide ((a0.length : Int) = (0 : Int)))) || (!decide ((a2.Order.length : Int) = (a0.length : Int)))) || (!y_2))) (iW a2.Value),some 30,[]⟩,⟨40,.gd (!((((!y_1) || (decide ((a0.length : Int) = (0 : Int)))) || (!decide ((a2.Order.length : Int) = (a0.length : Int)))) || (!y_2))) (bW (!decide (y_3 = a2.Value))),some 31,[]⟩,⟨41,bW (((((!y_1) || (decide ((a0.length : Int) = (0 : Int)))) || (!decide ((a2.Order.length : Int) = (a0.length : Int)))) || (!y_2)) || (!decide (y_3 = a2.Value))),some 32,[]⟩] [⟨[0],0,0,some (9,rW false a0 e63),[]⟩,⟨[3],0,0,some (10,bW y_1),[]⟩,⟨[4],0,0,some (11,bW (!y_1)),[]⟩,⟨[5],0,0,some (12,bW (!y_1)),[]⟩,⟨[6,0],0,0,some (13,.gd (!(!y_1)) (rW false a0 e63)),[]⟩,⟨[6,7],0,0,some (14,.gd (!(!y_1)) (iW (a0.length : Int))),[]⟩,⟨[6,8],0,0,some (15,.gd (!(!y_1)) (bW (decide ((a0.length : Int) = (0 : Int))))),[]⟩,⟨[6,9],0,0,some (16,bW ((!y_1) || (decide ((a0.length : Int) = (0 : Int))))),[]⟩,⟨[10],0,0,some (17,bW ((!y_1) || (decide ((a0.length : Int) = (0 : Int))))),[]⟩,⟨[11,2],0,0,some (18,.gd (!((!y_1) || (decide ((a0.length : Int) = (0 : Int))))) (.ptr 1 (0 + 0))),[]⟩,⟨[11,12],0,0,some (19,.gd (!((!y_1) || (decide ((a0.length : Int) = (0 : Int))))) (rW β2 a2.Order eW)),[]⟩,⟨[11,13],0,0,some (20,.gd (!((!y_1) || (decide ((a0.length : Int) = (0 : Int))))) (iW (a2.Order.length : Int))),[]⟩,⟨[11,0],0,0,some (21,.gd (!((!y_1) || (decide ((a0.length : Int) = (0 : Int))))) (rW false a0 e63)),[]⟩,⟨[11,15],0,0,some (22,.gd (!((!y_1) || (decide ((a0.length : Int) = (0 : Int))))) (iW (a0.length : Int))),[]⟩,⟨[11,14,16],0,0,some (23,.gd (!((!y_1) || (decide ((a0.length : Int) = (0 : Int))))) (bW (!decide ((a2.Order.length : Int) = (a0.length : Int))))),[]⟩,⟨[11,17],0,0,some (24,bW (((!y_1) || (decide ((a0.length : Int) = (0 : Int)))) || (!decide ((a2.Order.length : Int) = (a0.length : Int))))),[]⟩,⟨[18],0,0,some (25,bW (((!y_1) || (decide ((a0.length : Int) = (0 : Int)))) || (!decide ((a2.Order.length : Int) = (a0.length : Int))))),[]⟩,⟨[19,0],0,0,some (26,.gd (!(((!y_1) || (decide ((a0.length : Int) = (0 : Int)))) || (!decide ((a2.Order.length : Int) = (a0.length : Int))))) (rW false a0 e63)),[]⟩,⟨[19,2],0,0,some (27,.gd (!(((!y_1) || (decide ((a0.length : Int) = (0 : Int)))) || (!decide ((a2.Order.length : Int) = (a0.length : Int))))) (.ptr 1 (0 + 0))),[]⟩,⟨[19,21],0,0,some (28,.gd (!(((!y_1) || (decide ((a0.length : Int) = (0 : Int)))) || (!decide ((a2.Order.length : Int) = (a0.length : Int))))) (rW β2 a2.Order eW)),[]⟩,⟨[19,20,22],0,0,some (29,.gd (!(((!y_1) || (decide ((a0.length : Int) = (0 : Int)))) || (!decide ((a2.Order.length : Int) = (a0.length : Int))))) (bW y_2)),[]⟩,⟨[19,23],0,0,some (30,.gd (!(((!y_1) || (decide ((a0.length : Int) = (0 : Int)))) || (!decide ((a2.Order.length : Int) = (a0.length : Int))))) (bW (!y_2))),[]⟩,⟨[19,24],0,0,some (31,bW ((((!y_1) || (decide ((a0.length : Int) = (0 : Int)))) || (!decide ((a2.Order.length : Int) = (a0.length : Int)))) || (!y_2))),[]⟩,⟨[25],0,0,some (32,bW ((((!y_1) || (decide ((a0.length : Int) = (0 : Int)))) || (!decide ((a2.Order.length : Int) = (a0.length : Int)))) || (!y_2))),[]⟩,⟨[26,0],0,0,some (33,.gd (!((((!y_1) || (decide ((a0.length : Int) = (0 : Int)))) || (!decide ((a2.Order.length : Int) = (a0.length : Int)))) || (!y_2))) (rW false a0 e63)),[]⟩,⟨[26,2],0,0,some (34,.gd (!((((!y_1) || (decide ((a0.length : Int) = (0 : Int)))) || (!decide ((a2.Order.length : Int) = (a0.length : Int)))) || (!y_2))) (.ptr 1 (0 + 0))),[]⟩,⟨[26,28],0,0,some (35,.gd (!((((!y_1) || (decide ((a0.length : Int) = (0 : Int)))) || (!decide ((a2.Order.length : Int) = (a0.length : Int)))) || (!y_2))) (rW β2 a2.Order eW)),[]⟩,⟨[26,1],0,0,some (36,.gd (!((((!y_1) || (decide ((a0.length : Int) = (0 : Int)))) || (!decide ((a2.Order.length : Int) = (a0.length : Int)))) || (!y_2))) (bW a1)),[]⟩,⟨[26,27,29,30],0,0,some (37,.gd (!((((!y_1) || (decide ((a0.length : Int) = (0 : Int)))) || (!decide ((a2.Order.length : Int) = (a0.length : Int)))) || (!y_2))) (iW y_3)),[]⟩,⟨[26,2],0,0,some (38,.gd (!((((!y_1) || (decide ((a0.length : Int) = (0 : Int)))) || (!decide ((a2.Order.length : Int) = (a0.length : Int)))) || (!y_2))) (.ptr 1 (0 + 1))),[]⟩,⟨[26,32],0,0,some (39,.gd (!((((!y_1) || (decide ((a0.length : Int) = (0 : Int)))) || (!decide ((a2.Order.length : Int) = (a0.length : Int)))) || (!y_2))) (iW a2.Value)),[]⟩,⟨[26,31,33],0,0,some (40,.gd (!((((!y_1) || (decide ((a0.length : Int) = (0 : Int)))) || (!decide ((a2.Order.length : Int) = (a0.length : Int)))) || (!y_2))) (bW (!decide (y_3 = a2.Value)))),[]⟩,⟨[26,34],0,0,some (41,bW (((((!y_1) || (decide ((a0.length : Int) = (0 : Int)))) || (!decide ((a2.Order.length : Int) = (a0.length : Int)))) || (!y_2)) || (!decide (y_3 = a2.Value)))),[]⟩] [] [[(1,⟨47,false,[rW β2 a2.Order eW,iW a2.Value,iW a2.Proof.Sp,rW β3 a2.Proof.Kd encK27,rW β4 a2.Proof.Lf eW]⟩)]] [[],[0],[0,1],[0,1,2],[0,1,2,3],[0,1,2,3,4],[0,1,2,3,4,5],[0,1,2,3,4,5,6],[0,1,2,3,4,5,6,7],[0,1,2,3,4,5,6,7,8],[0,1,2,3,4,5,6,7,8,9],[0,1,2,3,4,5,6,7,8,9,10],[0,1,2,3,4,5,6,7,8],[0,1,2,3,4,5,6,7,8,12],[0,1,2,3,4,5,6,7,8,9,10,11,12,13],[0,1,2,3,4,5,6,7,8,9,10,11,12,13,14],[0,1,2,3,4,5,6,7,8,9,10,11,12,13,14,15],[0,1,2,3,4,5,6,7,8,9,10,11,12,13,14,15,16],[0,1,2,3,4,5,6,7,8,9,10,11,12,13,14,15,16],[0,1,2,3,4,5,6,7,8,9,10,11,12,13,14,15,16,18],[0,1,2,3,4,5,6,7,8,9,10,11,12,13,14,15,16,17,18,19],[0,1,2,3,4,5,6,7,8,9,10,11,12,13,14,15,16,17,18,19,20],[0,1,2,3,4,5,6,7,8,9,10,11,12,13,14,15,16,17,18,19,20,21],[0,1,2,3,4,5,6,7,8,9,10,11,12,13,14,15,16,17,18,19,20,21,22],[0,1,2,3,4,5,6,7,8,9,10,11,12,13,14,15,16,17,18,19,20,21,22,23],[0,1,2,3,4,5,6,7,8,9,10,11,12,13,14,15,16,17,18,19,20,21,22,23],[0,1,2,3,4,5,6,7,8,9,10,11,12,13,14,15,16,17,18,19,20,21,22,23,25],[0,1,2,3,4,5,6,7,8,9,10,11,12,13,14,15,16,17,18,19,20,21,22,23],[0,1,2,3,4,5,6,7,8,9,10,11,12,13,14,15,16,17,18,19,20,21,22,23,24,25,26,27],[0,1,2,3,4,5,6,7,8,9,10,11,12,13,14,15,16,17,18,19,20,21,22,23],[0,1,2,3,4,5,6,7,8,9,10,11,12,13,14,15,16,17,18,19,20,21,22,23,29],[0,1,2,3,4,5,6,7,8,9,10,11,12,13,14,15,16,17,18,19,20,21,22,23,24,25,26,27,28,29,30],[0,1,2,3,4,5,6,7,8,9,10,11,12,13,14,15,16,17,18,19,20,21,22,23,24,25,26,27,28,29,30,31]] (by kernel_rfl) (by kernel_rfl) (BornL.ok (.o<| .o<| .o<| .b rfl rfl<| .b rfl rfl<| .b rfl rfl<| .b rfl rfl<| .b rfl rfl<| .b rfl rfl<| .b rfl rfl<| .b rfl rfl<| .b rfl rfl<| .b rfl rfl<| .b rfl rfl<| .b rfl rfl<| .b rfl rfl<| .b rfl rfl<| .b rfl rfl<| .b rfl rfl<| .b rfl rfl<| .b rfl rfl<| .b rfl rfl<| .b rfl rfl<| .b rfl rfl<| .b rfl rfl<| .b rfl rfl<| .b rfl rfl<| .b rfl rfl<| .b rfl rfl<| .b rfl rfl<| .b rfl rfl<| .b rfl rfl<| .b rfl rfl<| .b rfl rfl<| .b rfl rfl<| .b rfl rfl<| .n)) (BaseL.ok (.o rfl<| .o rfl<| .o rfl<| .b<| .b<| .b<| .b<| .b<| .b<| .b<| .b<| .b<| .b<| .b<| .b<| .b<| .b<| .b<| .b<| .b<| .b<| .b<| .b<| .b<| .b<| .b<| .b<| .b<| .b<| .b<| .b<| .b<| .b<| .b<| .b<| .b<| .n)) rfl (by decide) (allLt rfl) (.pure rfl (fun H => .put (fun E hE => .move (l1 rfl) (hE.t 0 rfl)))<| .pure rfl (fun H => .put (fun E hE => .call0 (bw := false) (l1 rfl) (c19 (β1 := false) n a0 hy_1) (.cons (hE.t 0 rfl) (.ren rfl) (.nil)) rfl))<| .pure rfl (fun H => .put (fun E hE => .not (l1 rfl) (hE.t 0 rfl)))<| .pure rfl (fun H => .put (fun E hE => .move (l1 rfl) (hE.t 0 rfl)))<| .pure rfl (fun H => .gput (b := (!y_1)) (want := false) (j := 3) (dj := 12) rfl (l1 rfl) (l1 rfl) (fun E hE => hE.at (k := 0) rfl) (fun hg E hE => .move (l1 rfl) (hE.t 1 rfl)))<| .pure rfl (fun H => .gput (b := (!y_1)) (want := false) (j := 3) (dj := 12) rfl (l1 rfl) (l1 rfl) (fun E hE => hE.at (k := 0) rfl) (fun hg E hE => .lenRd (l1 rfl) (.gd hg (hE.t 1 rfl)) Tryz.underlying22))<| .pure rfl (fun H => .gput (b := (!y_1)) (want := false) (j := 3) (dj := 12) rfl (l1 rfl) (l1 rfl) (fun E hE => hE.at (k := 0) rfl) (fun hg E hE => .eql (l1 rfl) (.gd hg (hE.t 1 rfl)) (.const _ _ _)))<| .pure rfl (fun H => .put (fun E hE => .pickOr (l1 rfl) (hE.t 0 rfl) (.const _ _ _) (hE.t 1 rfl)))<| .pure rfl (fun H => .put (fun E hE => .move (l1 rfl) (hE.t 0 rfl)))<| .read rfl (.c (.gput (b := ((!y_1) || (decide ((a0.length : Int) = (0 : Int))))) (want := false) (j := 8) (dj := 17) rfl (l1 rfl) (l1 rfl) (fun E hE => hE.at (k := 0) rfl) (fun hg E hE => .fieldP (l1 rfl) (hE.t 1 rfl) fld47_0)) .n)<| .read rfl (.c (.gput (b := ((!y_1) || (decide ((a0.length : Int) = (0 : Int))))) (want := false) (j := 8) (dj := 17) rfl (l1 rfl) (l1 rfl) (fun E hE => hE.at (k := 0) rfl) (fun hg E hE => .loadP (l1 rfl) (.gd hg (hE.t 1 rfl)) one23 rfl rfl rfl)) .n)<| .pure rfl (fun H => .gput (b := ((!y_1) || (decide ((a0.length : Int) = (0 : Int))))) (want := false) (j := 8) (dj := 17) rfl (l1 rfl) (l1 rfl) (fun E hE => hE.at (k := 0) rfl) (fun hg E hE => .lenRd (l1 rfl) (.gd hg (hE.t 1 rfl)) Tryz.underlying23))<| .pure rfl (fun H => .gput (b := ((!y_1) || (decide ((a0.length : Int) = (0 : Int))))) (want := false) (j := 8) (dj := 17) rfl (l1 rfl) (l1 rfl) (fun E hE => hE.at (k := 0) rfl) (fun hg E hE => .move (l1 rfl) (hE.t 1 rfl)))<| .pure rfl (fun H => .gput (b := ((!y_1) || (decide ((a0.length : Int) = (0 : Int))))) (want := false) (j := 8) (dj := 17) rfl (l1 rfl) (l1 rfl) (fun E hE => hE.at (k := 0) rfl) (fun hg E hE => .lenRd (l1 rfl) (.gd hg (hE.t 1 rfl)) Tryz.underlying22))<| .pure rfl (fun H => .gput (b := ((!y_1) || (decide ((a0.length : Int) = (0 : Int))))) (want := false) (j := 8) (dj := 17) rfl (l1 rfl) (l1 rfl) (fun E hE => hE.at (k := 0) rfl) (fun hg E hE => .neq (l1 rfl) (.gd hg (hE.t 1 rfl)) (.gd hg (hE.t 2 rfl))))<| .pure rfl (fun H => .put (fun E hE => .pickOr (l1 rfl) (hE.t 0 rfl) (.const _ _ _) (hE.t 1 rfl)))<| .pure rfl (fun H => .put (fun E hE => .move (l1 rfl) (hE.t 0 rfl)))<| .pure rfl (fun H => .gput (b := (((!y_1) || (decide ((a0.length : Int) = (0 : Int)))) || (!decide ((a2.Order.length : Int) = (a0.length : Int))))) (want := false) (j := 16) (dj := 25) rfl (l1 rfl) (l1 rfl) (fun E hE => hE.at (k := 0) rfl) (fun hg E hE => .move (l1 rfl) (hE.t 1 rfl)))<| .read rfl (.c (.gput (b := (((!y_1) || (decide ((a0.length : Int) = (0 : Int)))) || (!decide ((a2.Order.length : Int) = (a0.length : Int))))) (want := false) (j := 16) (dj := 25) rfl (l1 rfl) (l1 rfl) (fun E hE => hE.at (k := 0) rfl) (fun hg E hE => .fieldP (l1 rfl) (hE.t 1 rfl) fld47_0)) .n)<| .read rfl (.c (.gput (b := (((!y_1) || (decide ((a0.length : Int) = (0 : Int)))) || (!decide ((a2.Order.length : Int) = (a0.length : Int))))) (want := false) (j := 16) (dj := 25) rfl (l1 rfl) (l1 rfl) (fun E hE => hE.at (k := 0) rfl) (fun hg E hE => .loadP (l1 rfl) (.gd hg (hE.t 1 rfl)) one23 rfl rfl rfl)) .n)<| .pure rfl (fun H => .gput (b := (((!y_1) || (decide ((a0.length : Int) = (0 : Int)))) || (!decide ((a2.Order.length : Int) = (a0.length : Int))))) (want := false) (j := 16) (dj := 25) rfl (l1 rfl) (l1 rfl) (fun E hE => hE.at (k := 0) rfl) (fun hg E hE => .call0 (bw := false) (l1 rfl) (c36 (β1 := false) (β2 := β2) n a0 a2.Order (gdB hy_2 hg)) (.cons (.gd hg (hE.t 1 rfl)) (.ren rfl) (.cons (.gd hg (hE.t 2 rfl)) (.ren rfl) (.nil))) rfl))<| .pure rfl (fun H => .gput (b := (((!y_1) || (decide ((a0.length : Int) = (0 : Int)))) || (!decide ((a2.Order.length : Int) = (a0.length : Int))))) (want := false) (j := 16) (dj := 25) rfl (l1 rfl) (l1 rfl) (fun E hE => hE.at (k := 0) rfl) (fun hg E hE => .not (l1 rfl) (.gd hg (hE.t 1 rfl))))<| .pure rfl (fun H => .put (fun E hE => .pickOr (l1 rfl) (hE.t 0 rfl) (.const _ _ _) (hE.t 1 rfl)))<| .pure rfl (fun H => .put (fun E hE => .move (l1 rfl) (hE.t 0 rfl)))<| .pure rfl (fun H => .gput (b := ((((!y_1) || (decide ((a0.length : Int) = (0 : Int)))) || (!decide ((a2.Order.length : Int) = (a0.length : Int)))) || (!y_2))) (want := false) (j := 23) (dj := 32) rfl (l1 rfl) (l1 rfl) (fun E hE => hE.at (k := 0) rfl) (fun hg E hE => .move (l1 rfl) (hE.t 1 rfl)))<| .read rfl (.c (.gput (b := ((((!y_1) || (decide ((a0.length : Int) = (0 : Int)))) || (!decide ((a2.Order.length : Int) = (a0.length : Int)))) || (!y_2))) (want := false) (j := 23) (dj := 32) rfl (l1 rfl) (l1 rfl) (fun E hE => hE.at (k := 0) rfl) (fun hg E hE => .fieldP (l1 rfl) (hE.t 1 rfl) fld47_0)) .n)<| .read rfl (.c (.gput (b := ((((!y_1) || (decide ((a0.length : Int) = (0 : Int)))) || (!decide ((a2.Order.length : Int) = (a0.length : Int)))) || (!y_2))) (want := false) (j := 23) (dj := 32) rfl (l1 rfl) (l1 rfl) (fun E hE => hE.at (k := 0) rfl) (fun hg E hE => .loadP (l1 rfl) (.gd hg (hE.t 1 rfl)) one23 rfl rfl rfl)) .n)<| .pure rfl (fun H => .gput (b := ((((!y_1) || (decide ((a0.length : Int) = (0 : Int)))) || (!decide ((a2.Order.length : Int) = (a0.length : Int)))) || (!y_2))) (want := false) (j := 23) (dj := 32) rfl (l1 rfl) (l1 rfl) (fun E hE => hE.at (k := 0) rfl) (fun hg E hE => .move (l1 rfl) (hE.t 1 rfl)))<| .pure rfl (fun H => .gput (b := ((((!y_1) || (decide ((a0.length : Int) = (0 : Int)))) || (!decide ((a2.Order.length : Int) = (a0.length : Int)))) || (!y_2))) (want := false) (j := 23) (dj := 32) rfl (l1 rfl) (l1 rfl) (fun E hE => hE.at (k := 0) rfl) (fun hg E hE => .call0 (bw := false) (l1 rfl) (c15 (β1 := false) (β2 := β2) n a0 a2.Order a1 (gdB hy_3 hg)) (.cons (.gd hg (hE.t 1 rfl)) (.ren rfl) (.cons (.gd hg (hE.t 2 rfl)) (.ren rfl) (.cons (.gd hg (hE.t 3 rfl)) (.ren rfl) (.nil)))) rfl))<| .read rfl (.c (.gput (b := ((((!y_1) || (decide ((a0.length : Int) = (0 : Int)))) || (!decide ((a2.Order.length : Int) = (a0.length : Int)))) || (!y_2))) (want := false) (j := 23) (dj := 32) rfl (l1 rfl) (l1 rfl) (fun E hE => hE.at (k := 0) rfl) (fun hg E hE => .fieldP (l1 rfl) (hE.t 1 rfl) fld47_1)) .n)<| .read rfl (.c (.gput (b := ((((!y_1) || (decide ((a0.length : Int) = (0 : Int)))) || (!decide ((a2.Order.length : Int) = (a0.length : Int)))) || (!y_2))) (want := false) (j := 23) (dj := 32) rfl (l1 rfl) (l1 rfl) (fun E hE => hE.at (k := 0) rfl) (fun hg E hE => .loadP (l1 rfl) (.gd hg (hE.t 1 rfl)) one3 rfl rfl rfl)) .n)<| .pure rfl (fun H => .gput (b := ((((!y_1) || (decide ((a0.length : Int) = (0 : Int)))) || (!decide ((a2.Order.length : Int) = (a0.length : Int)))) || (!y_2))) (want := false) (j := 23) (dj := 32) rfl (l1 rfl) (l1 rfl) (fun E hE => hE.at (k := 0) rfl) (fun hg E hE => .neq (l1 rfl) (.gd hg (hE.t 1 rfl)) (.gd hg (hE.t 2 rfl))))<| .pure rfl (fun H => .put (fun E hE => .pickOr (l1 rfl) (hE.t 0 rfl) (.const _ _ _) (hE.t 1 rfl)))<| .nil _) (fun E hE => .c (DInv.at hE (k := 0) rfl rfl rfl)<| .c (DInv.at hE (k := 1) rfl rfl rfl)<| .c (DInv.at hE (k := 2) rfl rfl rfl)<| .c (DInv.at hE (k := 35) rfl rfl rfl)<| .n _) rfl ?_
 refine AWP.vs ⟨[(0,rW false a0 e63),(1,bW a1),(5,.ptr 1 0),(41,bW (((((!y_1) || (decide ((a0.length : Int) = (0 : Int)))) || (!decide ((a2.Order.length : Int) = (a0.length : Int)))) || (!y_2)) || (!decide (y_3 = a2.Value))))],[(1,⟨47,false,[rW β2 a2.Order eW,iW a2.Value,iW a2.Proof.Sp,rW β3 a2.Proof.Kd encK27,rW β4 a2.Proof.Lf eW]⟩)]⟩ rfl rfl ?_
 refine AWP.cond (.t rfl) (fun hc => ?_) (fun hc => ?_)
 ·have h := iteT hc h
  refine AWP.seq ?_
  refine AWP.rg (.cons (.assign (l1 rfl) (.const _ _ _))<| .nil _ _ _) ?_
  refine AWP.ret ?_
  obtain rfl := Option.some.inj h
  refine retJ (Res.vc (s' := ⟨[(6,bW false)],[]⟩) (VC.sub (.of rfl) (.n _)) ?_)
  refine Res.drop (H := []) rfl ?_
  exact Res.of rfl (.cons (.tmp rfl) (.nil)) rfl rfl
 ·have h := iteF hc h
  refine AWP.skip ?_
  refine AWP.seq ?_
  obtain ⟨y_4,hy_4,h⟩ := bindS h
  refine AWP.rg (.cons (.move (l1 rfl) (.t rfl))<| .cons (.move (l1 rfl) (.t rfl))<| .cons (.fieldP (l1 rfl) (.t rfl) fld47_1)<| .cons (.loadP (l1 rfl) (.t rfl) one3 rfl rfl rfl)<| .cons (.buildO (offs := [(0,1),(1,1),(2,1),(3,1)]) (l1 rfl) (.cons (.t rfl) (by first | exact ⟨rfl,rfl⟩ | rfl) (.cons (.const _ _ _) (by first | exact ⟨rfl,rfl⟩ | rfl) (.cons (.t rfl) (by first | exact ⟨rfl,rfl⟩ | rfl) (.cons (.t rfl) (by first | exact ⟨rfl,rfl⟩ | rfl) (.nil))))) zero25 offs25 rfl)<| .cons (.fieldP (l1 rfl) (.t rfl) fld47_2)<| .cons (.loadPA (l1 rfl) (.t rfl) agg28 rfl rfl rfl rfl)<| .cons (.call0 (bw := false) (l1 rfl) (c10 (β2 := false) (β3 := β3) (β4 := β4) n (R24.mk a0 ([] : List Int) a1 a2.Value) (R27.mk a2.Proof.Sp a2.Proof.Kd a2.Proof.Lf) hy_4) (.cons (.t rfl) (.agg (.cons (.ren rfl) (.cons (.nil) (.cons (.ren rfl) (.cons (.ren rfl) (.nil)))))) (.cons (.t rfl) (.ren rfl) (.nil))) rfl)<| .cons (.move (l1 rfl) (.t rfl))<| .cons (.extract (l1 rfl) (.t rfl) rfl)<| .cons (.extract (l1 rfl) (.t rfl) rfl)<| .cons (.assign (l1 rfl) (.t rfl))<| .cons (.assign (l1 rfl) (.t rfl))<| .nil _ _ _) ?_
  refine AWP.vs ⟨[(8,iW y_4.2)],[]⟩ rfl rfl ?_
  refine AWP.seq ?_
  refine AWP.rg (.cons (.move (l1 rfl) (.t rfl))<| .cons (.eql (l1 rfl) (.t rfl) (.const _ _ _))<| .cons (.assign (l1 rfl) (.t rfl))<| .nil _ _ _) ?_
  refine AWP.ret ?_
  obtain rfl := Option.some.inj h
  refine retJ (Res.vc (s' := ⟨[(6,bW (decide (y_4.2 = (0 : Int))))],[]⟩) (VC.sub (.of rfl) (.n _)) ?_)
  refine Res.drop (H := []) rfl ?_
  exact Res.of rfl (.cons (.tmp rfl) (.nil)) rfl rfl
theorem c16 {β1 : Bool} {β2 : Bool} {β3 : Bool} (n : Nat) (a0 : (List R63)) (a1 : (List Int)) (a2 : (List UInt8)) {r : (List Int)} (h : m16 n a0 a1 a2 = some r) : Spec Tryz.prog 16 [] [rW β1 a0 e63,rW β2 a1 eW,rW β3 a2 enc8] [] (rW false r eW) [] := by
 refine Spec.of (fn := Tryz.f16) Tryz.func16 Tryz.ntmps16 rfl rfl (le1 rfl) (fun w0 Zs Zb T0 ι0 => ?_)
 unfold m16 at h
 refine AWP.seq ?_
 refine AWP.rg (.cons (.assign (l1 rfl) (.const _ _ _))<| .nil _ _ _) ?_
 refine AWP.vs ⟨[(0,rW β1 a0 e63),(1,rW β2 a1 eW),(2,rW β3 a2 enc8)],[]⟩ rfl rfl ?_
 refine AWP.seq ?_
 obtain ⟨l1_1,hl1_1,h⟩ := bindS h
 refine AWP.rg (.cons (.buildSlice (t := 1) (out := ([] : List Int).flatMap eW) (l1 rfl) (nm rfl) (.nil) Tryz.underlying23 zero3 el3 (by decide) (by decide) rfl (still_all (encI_still .i64) _))<| .cons (.move (l1 rfl) (.t rfl))<| .cons (.app (enc := eW) (l1 rfl) (nm rfl) (.t rfl) (Src.rd (.t rfl) (flatMap_length (encI_len .i64) _) (one_all (encI_one .i64) _) (.inr (scal_all (encI_scal .i64) _))) Tryz.underlying23 ⟨_,Tryz.underlying23,by intro k hk; cases hk⟩ el3 rfl (encI_len .i64) rfl rfl (by decide) hl1_1)<| .cons (.assign (l1 rfl) (.t rfl))<| .nil _ _ _) ?_
 refine AWP.vs ⟨[(0,rW β1 a0 e63),(2,rW β3 a2 enc8),(7,.own 1 1 0 l1_1.length)],[(1,⟨3,true,l1_1.flatMap eW⟩)]⟩ rfl rfl ?_
 refine AWP.seq ?_
 refine AWP.seq ?_
 refine AWP.rg (.cons (.assign (l1 rfl) (.const _ _ _))<| .nil _ _ _) ?_
 refine AWP.vs ⟨[(0,rW β1 a0 e63),(2,rW β3 a2 enc8),(7,.own 1 1 0 l1_1.length),(8,iW (0 : Int))],[(1,⟨3,true,l1_1.flatMap eW⟩)]⟩ rfl rfl ?_
 refine AWP.joinB' (S := fun p_183 : (List Int) => ⟨[(7,.own 1 1 0 p_183.length)],[(1,⟨3,true,p_183.flatMap eW⟩)]⟩) h (fun p_183 h => ?_) (fun k_184 h => ?_)
 ·refine AWP.seq ?_
  refine AWP.rg (.cons (.move (l1 rfl) (.t rfl))<| .cons (.assign (l1 rfl) (.t rfl))<| .nil _ _ _) ?_
  refine AWP.ret ?_
  obtain rfl := Option.some.inj h
  refine retJ (Res.vc (s' := ⟨[(6,rW false p_183 eW)],[]⟩) (VC.trans (VC.frz (d := 6) (t := 1) rfl rfl (encI_len .i64)) (VC.sub (.of rfl) (.n _))) ?_)
  refine Res.drop (H := []) rfl ?_
  exact Res.of rfl (.cons (.tmp rfl) (.nil)) rfl rfl
 ·refine AWP.vs ⟨[(0,rW β1 a0 e63),(2,rW β3 a2 enc8),(7,.own 1 1 0 l1_1.length),(8,iW (0 : Int))],[(1,⟨3,true,l1_1.flatMap eW⟩)]⟩ rfl rfl ?_
  refine AWP.loopM (S := fun x_122 : Int × (List Int) => ⟨[(0,rW β1 a0 e63),(2,rW β3 a2 enc8),(7,.own 1 1 0 x_122.2.length),(8,iW x_122.1)],[(1,⟨3,true,x_122.2.flatMap eW⟩)]⟩) (x := ((0 : Int),l1_1)) (fun nx_123 x_122 h => ?_) h
  unfold m16_L9 at h
  refine AWP.seq ?_
  refine AWP.seq ?_
  refine AWP.rg (.cons (.move (l1 rfl) (.t rfl))<| .cons (.lenOwn (l1 rfl) (.t rfl) Tryz.underlying23)<| .cons (.move (l1 rfl) (.t rfl))<| .cons (.lenRd (l1 rfl) (.t rfl) Tryz.underlying22)<| .cons (.lss (l1 rfl) (.t rfl) (.t rfl))<| .nil _ _ _) ?_
  refine AWP.vs ⟨[(0,rW β1 a0 e63),(2,rW β3 a2 enc8),(7,.own 1 1 0 x_122.2.length),(8,iW x_122.1),(22,bW (decide ((x_122.2.length : Int) < (a0.length : Int))))],[(1,⟨3,true,x_122.2.flatMap eW⟩)]⟩ rfl rfl ?_
  refine AWP.cond (.t rfl) (fun hc => ?_) (fun hc => ?_)
  ·have h := iteT hc h
   refine AWP.skip ?_
   refine AWP.seq ?_
   refine AWP.block ?_
   refine AWP.seq ?_
   refine AWP.rg (.cons (.assign (l1 rfl) (.const _ _ _))<| .nil _ _ _) ?_
   refine AWP.vs ⟨[(0,rW β1 a0 e63),(2,rW β3 a2 enc8),(7,.own 1 1 0 x_122.2.length),(8,iW x_122.1),(9,iW (0 : Int))],[(1,⟨3,true,x_122.2.flatMap eW⟩)]⟩ rfl rfl ?_
   refine AWP.seq ?_
   refine AWP.seq ?_
   refine AWP.rg (.cons (.move (l1 rfl) (.t rfl))<| .cons (.move (l1 rfl) (.t rfl))<| .cons (.lenRd (l1 rfl) (.t rfl) Tryz.underlying29)<| .cons (.lss (l1 rfl) (.t rfl) (.t rfl))<| .nil _ _ _) ?_
   refine AWP.vs ⟨[(0,rW β1 a0 e63),(2,rW β3 a2 enc8),(7,.own 1 1 0 x_122.2.length),(8,iW x_122.1),(9,iW (0 : Int)),(28,bW (decide (x_122.1 < (a2.length : Int))))],[(1,⟨3,true,x_122.2.flatMap eW⟩)]⟩ rfl rfl ?_
   refine AWP.join' (S := fun p_126 : Int => ⟨[(0,rW β1 a0 e63),(2,rW β3 a2 enc8),(7,.own 1 1 0 x_122.2.length),(8,iW x_122.1),(9,iW p_126)],[(1,⟨3,true,x_122.2.flatMap eW⟩)]⟩) h (fun p_126 h => ?_) (fun k_127 h => ?_)
   ·refine AWP.seq ?_
    refine AWP.rg (.cons (.assign (l1 rfl) (.const _ _ _))<| .nil _ _ _) ?_
    refine AWP.vs ⟨[(0,rW β1 a0 e63),(2,rW β3 a2 enc8),(7,.own 1 1 0 x_122.2.length),(8,iW x_122.1),(9,iW p_126),(10,iW (0 : Int))],[(1,⟨3,true,x_122.2.flatMap eW⟩)]⟩ rfl rfl ?_
    refine AWP.joinB' (S := fun p_180 : (List Int) => ⟨[(0,rW β1 a0 e63),(2,rW β3 a2 enc8),(7,.own 1 1 0 p_180.length),(8,iW x_122.1)],[(1,⟨3,true,p_180.flatMap eW⟩)]⟩) h (fun p_180 h => ?_) (fun k_181 h => ?_)
    ·obtain ⟨t8_182,ht8_182,h⟩ := letS h
     refine AWP.rg (.cons (.move (l1 rfl) (.t rfl))<| .cons (.add (l1 rfl) (.t rfl) (.const _ _ _))<| .cons (.assign (l1 rfl) (.t rfl))<| .nil _ _ _) ?_
     exact endJ (t8_182,p_180) h (by subst ht8_182; exact VC.sub (.of rfl) (.of rfl))
    ·refine AWP.vs ⟨[(0,rW β1 a0 e63),(2,rW β3 a2 enc8),(7,.own 1 1 0 x_122.2.length),(8,iW x_122.1),(9,iW p_126),(10,iW (0 : Int))],[(1,⟨3,true,x_122.2.flatMap eW⟩)]⟩ rfl rfl ?_
     refine AWP.loopM (S := fun x_162 : Int => ⟨[(0,rW β1 a0 e63),(2,rW β3 a2 enc8),(7,.own 1 1 0 x_122.2.length),(8,iW x_122.1),(9,iW p_126),(10,iW x_162)],[(1,⟨3,true,x_122.2.flatMap eW⟩)]⟩) (x := (0 : Int)) (fun nx_163 x_162 h => ?_) h
     unfold m16_L12 at h
     refine AWP.seq ?_
     refine AWP.seq ?_
     refine AWP.rg (.cons (.move (l1 rfl) (.t rfl))<| .cons (.move (l1 rfl) (.t rfl))<| .cons (.lenRd (l1 rfl) (.t rfl) Tryz.underlying22)<| .cons (.lss (l1 rfl) (.t rfl) (.t rfl))<| .nil _ _ _) ?_
     refine AWP.vs ⟨[(0,rW β1 a0 e63),(2,rW β3 a2 enc8),(7,.own 1 1 0 x_122.2.length),(8,iW x_122.1),(9,iW p_126),(10,iW x_162),(37,bW (decide (x_162 < (a0.length : Int))))],[(1,⟨3,true,x_122.2.flatMap eW⟩)]⟩ rfl rfl ?_
     refine AWP.cond (.t rfl) (fun hc => ?_) (fun hc => ?_)
     ·have h := iteT hc h
      refine AWP.skip ?_
      refine AWP.seq ?_
      refine AWP.block ?_
      refine AWP.seq ?_
      obtain ⟨ha_164,h⟩ := asrtS h
      obtain ⟨t11_165,ht11_165,h⟩ := letS h
      refine AWP.rg (.cons (.move (l1 rfl) (.t rfl))<| .cons (.move (l1 rfl) (.t rfl))<| .cons (.add (l1 rfl) (.t rfl) (.t rfl))<| .cons (.move (l1 rfl) (.t rfl))<| .cons (.lenRd (l1 rfl) (.t rfl) Tryz.underlying22)<| .cons (.rem (l1 rfl) (.t rfl) (.t rfl) ha_164)<| .cons (.assign (l1 rfl) (.t rfl))<| .cons (.assign (l1 rfl) (.const _ _ _))<| .nil _ _ _) ?_
      refine AWP.vc (s' := ⟨[(0,rW β1 a0 e63),(2,rW β3 a2 enc8),(7,.own 1 1 0 x_122.2.length),(8,iW x_122.1),(9,iW p_126),(10,iW x_162),(11,iW t11_165),(12,bW true)],[(1,⟨3,true,x_122.2.flatMap eW⟩)]⟩) (by subst ht11_165; exact VC.sub (.of rfl) (.of rfl)) ?_
      refine AWP.seq ?_
      refine AWP.seq ?_
      refine AWP.rg (.cons (.move (l1 rfl) (.t rfl))<| .cons (.lenOwn (l1 rfl) (.t rfl) Tryz.underlying23)<| .cons (.move (l1 rfl) (.const _ _ _))<| .nil _ _ _) ?_
      refine AWP.vs ⟨[(0,rW β1 a0 e63),(2,rW β3 a2 enc8),(7,.own 1 1 0 x_122.2.length),(8,iW x_122.1),(9,iW p_126),(10,iW x_162),(11,iW t11_165),(12,bW true),(46,.own 1 1 0 x_122.2.length),(47,iW (x_122.2.length : Int)),(48,iW (0 : Int))],[(1,⟨3,true,x_122.2.flatMap eW⟩)]⟩ rfl rfl ?_
      refine AWP.joinB' (S := fun p_176 : Bool => ⟨[(0,rW β1 a0 e63),(2,rW β3 a2 enc8),(7,.own 1 1 0 x_122.2.length),(8,iW x_122.1),(9,iW p_126),(10,iW x_162),(11,iW t11_165),(12,bW p_176)],[(1,⟨3,true,x_122.2.flatMap eW⟩)]⟩) h (fun p_176 h => ?_) (fun k_177 h => ?_)
      ·refine AWP.seq ?_
       refine AWP.rg (.cons (.move (l1 rfl) (.t rfl))<| .nil _ _ _) ?_
       refine AWP.vs ⟨[(0,rW β1 a0 e63),(2,rW β3 a2 enc8),(7,.own 1 1 0 x_122.2.length),(8,iW x_122.1),(9,iW p_126),(10,iW x_162),(11,iW t11_165),(59,bW p_176)],[(1,⟨3,true,x_122.2.flatMap eW⟩)]⟩ rfl rfl ?_
       refine AWP.cond (.t rfl) (fun hc => ?_) (fun hc => ?_)
       ·have h := iteT hc h
        refine AWP.seq ?_
        obtain ⟨l1_178,hl1_178,h⟩ := bindS h
        refine AWP.rg (.cons (.move (l1 rfl) (.t rfl))<| .cons (.move (l1 rfl) (.t rfl))<| .cons (.buildSlice (t := 2) (out := ([t11_165] : List Int).flatMap eW) (l1 rfl) (nm rfl) (.cons (.t rfl) (by first | exact ⟨rfl,rfl⟩ | rfl) (.nil)) Tryz.underlying23 zero3 el3 (by decide) (by decide) rfl (still_all (encI_still .i64) _))<| .cons (.app (enc := eW) (l1 rfl) (nm rfl) (.t rfl) (Src.own (.t rfl) rfl (lendAll (encI_len .i64) _) (flatMap_length (encI_len .i64) _) (one_all (encI_one .i64) _) (.inl rfl)) Tryz.underlying23 ⟨_,Tryz.underlying23,by intro k hk; cases hk⟩ el3 rfl (encI_len .i64) rfl rfl (by decide) hl1_178)<| .cons (.assign (l1 rfl) (.t rfl))<| .nil _ _ _) ?_
        refine AWP.exit ?_
        exact endJ l1_178 h (VC.sub (.of rfl) (.of rfl))
       ·have h := iteF hc h
        refine AWP.skip ?_
        obtain ⟨t10_179,ht10_179,h⟩ := letS h
        refine AWP.rg (.cons (.move (l1 rfl) (.t rfl))<| .cons (.add (l1 rfl) (.t rfl) (.const _ _ _))<| .cons (.assign (l1 rfl) (.t rfl))<| .nil _ _ _) ?_
        exact endJ t10_179 h (by subst ht10_179; exact VC.sub (.of rfl) (.of rfl))
      ·refine AWP.vs ⟨[(0,rW β1 a0 e63),(2,rW β3 a2 enc8),(7,.own 1 1 0 x_122.2.length),(8,iW x_122.1),(9,iW p_126),(10,iW x_162),(11,iW t11_165),(12,bW true),(46,.own 1 1 0 x_122.2.length),(47,iW (x_122.2.length : Int)),(48,iW (0 : Int))],[(1,⟨3,true,x_122.2.flatMap eW⟩)]⟩ rfl rfl ?_
       refine AWP.loopM (S := fun x_172 : Bool × Int => ⟨[(0,rW β1 a0 e63),(2,rW β3 a2 enc8),(7,.own 1 1 0 x_122.2.length),(8,iW x_122.1),(9,iW p_126),(10,iW x_162),(11,iW t11_165),(12,bW x_172.1),(46,.own 1 1 0 x_122.2.length),(47,iW (x_122.2.length : Int)),(48,iW x_172.2)],[(1,⟨3,true,x_122.2.flatMap eW⟩)]⟩) (x := (true,(0 : Int))) (fun nx_173 x_172 h => ?_) h
       unfold m16_L13 at h
       refine AWP.seq ?_
       refine AWP.rg (.cons (.lss (l1 rfl) (.t rfl) (.t rfl))<| .nil _ _ _) ?_
       refine AWP.vs ⟨[(0,rW β1 a0 e63),(2,rW β3 a2 enc8),(7,.own 1 1 0 x_122.2.length),(8,iW x_122.1),(9,iW p_126),(10,iW x_162),(11,iW t11_165),(12,bW x_172.1),(46,.own 1 1 0 x_122.2.length),(47,iW (x_122.2.length : Int)),(48,iW x_172.2),(49,bW (decide (x_172.2 < (x_122.2.length : Int))))],[(1,⟨3,true,x_122.2.flatMap eW⟩)]⟩ rfl rfl ?_
       refine AWP.seq ?_
       refine AWP.cond (.t rfl) (fun hc => ?_) (fun hc => ?_)
       ·have h := iteT hc h
        refine AWP.skip ?_
        refine AWP.seq ?_
        refine AWP.block ?_
        refine AWP.seq ?_
        obtain ⟨y_174,hy_174,h⟩ := bindS h
        refine AWP.rg (.cons (.idxOwn (l1 rfl) (.t rfl) (.t rfl) Tryz.underlying23 sz3 rfl hy_174)<| .cons (.loadP (l1 rfl) (.t rfl) one3 rfl (cell_at1 (encI_len .i64) hy_174) rfl)<| .cons (.assign (l1 rfl) (.t rfl))<| .nil _ _ _) ?_
        refine AWP.vs ⟨[(0,rW β1 a0 e63),(2,rW β3 a2 enc8),(7,.own 1 1 0 x_122.2.length),(8,iW x_122.1),(9,iW p_126),(10,iW x_162),(11,iW t11_165),(12,bW x_172.1),(46,.own 1 1 0 x_122.2.length),(47,iW (x_122.2.length : Int)),(48,iW x_172.2),(14,iW y_174)],[(1,⟨3,true,x_122.2.flatMap eW⟩)]⟩ rfl rfl ?_
        refine AWP.rg (.cons (.move (l1 rfl) (.t rfl))<| .cons (.move (l1 rfl) (.t rfl))<| .guard (j := 1) (dj := 53) rfl (l1 rfl) rfl (l1 rfl) (fun hg => .move (l1 rfl) (.t rfl))<| .guard (j := 1) (dj := 53) rfl (l1 rfl) rfl (l1 rfl) (fun hg => .move (l1 rfl) (.t rfl))<| .guard (j := 1) (dj := 53) rfl (l1 rfl) rfl (l1 rfl) (fun hg => .neq (l1 rfl) (.gd hg (.t rfl)) (.gd hg (.t rfl)))<| .cons (.pickAnd (l1 rfl) (.t rfl) (.t rfl) (.const _ _ _))<| .cons (.assign (l1 rfl) (.t rfl))<| .nil _ _ _) ?_
        refine AWP.vs ⟨[(0,rW β1 a0 e63),(2,rW β3 a2 enc8),(7,.own 1 1 0 x_122.2.length),(8,iW x_122.1),(9,iW p_126),(10,iW x_162),(11,iW t11_165),(12,bW (x_172.1 && (!decide (y_174 = t11_165)))),(46,.own 1 1 0 x_122.2.length),(47,iW (x_122.2.length : Int)),(48,iW x_172.2)],[(1,⟨3,true,x_122.2.flatMap eW⟩)]⟩ rfl rfl ?_
        obtain ⟨t48_175,ht48_175,h⟩ := letS h
        refine AWP.rg (.cons (.add (l1 rfl) (.t rfl) (.const _ _ _))<| .cons (.move (l1 rfl) (.t rfl))<| .nil _ _ _) ?_
        exact endJ ((x_172.1 && (!decide (y_174 = t11_165))),t48_175) h (by subst ht48_175; exact VC.sub (.of rfl) (.of rfl))
       ·have h := iteF hc h
        refine AWP.exit ?_
        exact endJ x_172.1 h (VC.sub (.of rfl) (.of rfl))
     ·have h := iteF hc h
      refine AWP.exit ?_
      exact endJ x_122.2 h (VC.sub (.of rfl) (.of rfl))
   ·refine AWP.cond (.t rfl) (fun hc => ?_) (fun hc => ?_)
    ·have h := iteT hc h
     obtain ⟨y_124,hy_124,h⟩ := bindS h
     obtain ⟨t9_125,ht9_125,h⟩ := letS h
     refine AWP.rg (.cons (.move (l1 rfl) (.t rfl))<| .cons (.move (l1 rfl) (.t rfl))<| .cons (.indexRd (enc := enc8) (l1 rfl) (.t rfl) (.t rfl) Tryz.underlying29 sz5 enc8_len rfl hy_124)<| .cons (.loadR (v := .sc (.int .u8 (y_124.toNat : Int))) (l1 rfl) (.t rfl) one5 rfl)<| .cons (.conv (l1 rfl) (.t rfl) Tryz.underlying5 Tryz.underlying3)<| .cons (.assign (l1 rfl) (.t rfl))<| .nil _ _ _) ?_
     exact endJ t9_125 h (by subst ht9_125; exact VC.sub (.of rfl) (.of rfl))
    ·have h := iteF hc h
     refine AWP.skip ?_
     exact endJ (0 : Int) h (VC.sub (.of rfl) (.of rfl))
  ·have h := iteF hc h
   refine AWP.exit ?_
   exact endJ x_122.2 h (VC.sub (.of rfl) (.of rfl))
end Go.AB
