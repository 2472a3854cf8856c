import Derived.Test.YtpccmcepgllccaaGreatProg
import Derived.Test.YtpccmcepgllccaaGreatF3b
import Derived.KernelRfl
set_option linter.unusedVariables false
set_option maxRecDepth 20000
namespace Go.AB
open Go Go.Proofs
theorem c76 {β1 : Bool} (n : Nat) (a0 : (List R63)) (a1 : Bool) {r : Int} (h : m76 n a0 a1 = some r) : Spec Tryz.prog 76 [] [rW β1 a0 e63,bW a1] [] (iW r) [] := by
 refine Spec.of (fn := Tryz.f76) Tryz.func76 Tryz.ntmps76 rfl rfl (le1 rfl) (fun w0 Zs Zb T0 ι0 => ?_)
 unfold m76 at h
 refine AWP.seq ?_
 refine AWP.rg (.cons (.assign (l1 rfl) (.const _ _ _))<| .nil _ _ _) ?_
 refine AWP.vs ⟨[(0,rW β1 a0 e63),(1,bW a1)],[]⟩ rfl rfl ?_
 refine AWP.seq ?_
 refine AWP.rg (.cons (.assign (l1 rfl) (.const _ _ _))<| .nil _ _ _) ?_
 refine AWP.vs ⟨[(0,rW β1 a0 e63),(1,bW a1),(5,iW (0 : Int))],[]⟩ rfl rfl ?_
 refine AWP.seq ?_
 refine AWP.seq ?_
 refine AWP.rg (.cons (.assign (l1 rfl) (.const _ _ _))<| .nil _ _ _) ?_
 refine AWP.vs ⟨[(0,rW β1 a0 e63),(1,bW a1),(5,iW (0 : Int)),(6,iW (0 : Int))],[]⟩ rfl rfl ?_
 refine AWP.joinB' (S := fun p_20 : Int => ⟨[(0,rW β1 a0 e63),(1,bW a1),(5,iW p_20)],[]⟩) h (fun p_20 h => ?_) (fun k_21 h => ?_)
 ·refine AWP.seq ?_
  refine AWP.rg (.cons (.assign (l1 rfl) (.const _ _ _))<| .cons (.assign (l1 rfl) (.const _ _ _))<| .nil _ _ _) ?_
  refine AWP.vs ⟨[(0,rW β1 a0 e63),(1,bW a1),(5,iW p_20),(7,iW (0 : Int)),(8,bW false)],[]⟩ rfl rfl ?_
  refine AWP.seq ?_
  refine AWP.seq ?_
  refine AWP.rg (.cons (.move (l1 rfl) (.t rfl))<| .nil _ _ _) ?_
  refine AWP.vs ⟨[(0,rW β1 a0 e63),(5,iW p_20),(7,iW (0 : Int)),(8,bW false),(42,bW a1)],[]⟩ rfl rfl ?_
  refine AWP.cond (.t rfl) (fun hc => ?_) (fun hc => ?_)
  ·have h := iteT hc h
   refine AWP.seq ?_
   refine AWP.seq ?_
   refine AWP.rg (.cons (.assign (l1 rfl) (.const _ _ _))<| .nil _ _ _) ?_
   refine AWP.vs ⟨[(0,rW β1 a0 e63),(7,iW (0 : Int)),(8,bW false),(9,iW (0 : Int))],[]⟩ rfl rfl ?_
   refine AWP.joinB' (S := fun p_398 : Int => ⟨[(7,iW p_398)],[]⟩) h (fun p_398 h => ?_) (fun k_399 h => ?_)
   ·refine AWP.seq ?_
    refine AWP.rg (.cons (.move (l1 rfl) (.t rfl))<| .cons (.assign (l1 rfl) (.t rfl))<| .nil _ _ _) ?_
    refine AWP.ret ?_
    obtain rfl := Option.some.inj h
    refine retJ (Res.vc (s' := ⟨[(4,iW p_398)],[]⟩) (VC.sub (.of rfl) (.n _)) ?_)
    refine Res.drop (H := []) rfl ?_
    exact Res.of rfl (.cons (.tmp rfl) (.nil)) rfl rfl
   ·refine AWP.vs ⟨[(0,rW β1 a0 e63),(7,iW (0 : Int)),(8,bW false),(9,iW (0 : Int))],[]⟩ rfl rfl ?_
    refine AWP.loopM (S := fun x_272 : Int × Bool × Int => ⟨[(0,rW β1 a0 e63),(7,iW x_272.1),(8,bW x_272.2.1),(9,iW x_272.2.2)],[]⟩) (x := ((0 : Int),false,(0 : Int))) (fun nx_273 x_272 h => ?_) h
    unfold m76_L10 at h
    refine AWP.seq ?_
    refine AWP.seq ?_
    refine AWP.rg (.cons (.move (l1 rfl) (.t rfl))<| .cons (.move (l1 rfl) (.t rfl))<| .cons (.lenRd (l1 rfl) (.t rfl) Tryz.underlying22)<| .cons (.lss (l1 rfl) (.t rfl) (.t rfl))<| .nil _ _ _) ?_
    refine AWP.vs ⟨[(0,rW β1 a0 e63),(7,iW x_272.1),(8,bW x_272.2.1),(9,iW x_272.2.2),(46,bW (decide (x_272.2.2 < (a0.length : Int))))],[]⟩ rfl rfl ?_
    refine AWP.cond (.t rfl) (fun hc => ?_) (fun hc => ?_)
    ·have h := iteT hc h
     refine AWP.skip ?_
     refine AWP.seq ?_
     refine AWP.block ?_
     refine AWP.seq ?_
     refine AWP.rg (.cons (.assign (l1 rfl) (.const _ _ _))<| .nil _ _ _) ?_
     refine AWP.vs ⟨[(0,rW β1 a0 e63),(7,iW x_272.1),(8,bW x_272.2.1),(9,iW x_272.2.2),(10,iW (0 : Int))],[]⟩ rfl rfl ?_
     refine AWP.joinB' (S := fun p_395 : Int × Bool => ⟨[(0,rW β1 a0 e63),(7,iW p_395.1),(8,bW p_395.2),(9,iW x_272.2.2)],[]⟩) h (fun p_395 h => ?_) (fun k_396 h => ?_)
     ·obtain ⟨t9_397,ht9_397,h⟩ := letS h
      refine AWP.rg (.cons (.move (l1 rfl) (.t rfl))<| .cons (.add (l1 rfl) (.t rfl) (.const _ _ _))<| .cons (.assign (l1 rfl) (.t rfl))<| .nil _ _ _) ?_
      exact endJ (p_395.1,p_395.2,t9_397) h (by subst ht9_397; exact VC.sub (.of rfl) (.n _))
     ·refine AWP.vs ⟨[(0,rW β1 a0 e63),(7,iW x_272.1),(8,bW x_272.2.1),(9,iW x_272.2.2),(10,iW (0 : Int))],[]⟩ rfl rfl ?_
      refine AWP.loopM (S := fun x_354 : Int × Bool × Int => ⟨[(0,rW β1 a0 e63),(7,iW x_354.1),(8,bW x_354.2.1),(9,iW x_272.2.2),(10,iW x_354.2.2)],[]⟩) (x := (x_272.1,x_272.2.1,(0 : Int))) (fun nx_355 x_354 h => ?_) h
      unfold m76_L13 at h
      refine AWP.seq ?_
      refine AWP.seq ?_
      refine AWP.rg (.cons (.move (l1 rfl) (.t rfl))<| .cons (.move (l1 rfl) (.t rfl))<| .cons (.lenRd (l1 rfl) (.t rfl) Tryz.underlying22)<| .cons (.lss (l1 rfl) (.t rfl) (.t rfl))<| .nil _ _ _) ?_
      refine AWP.vs ⟨[(0,rW β1 a0 e63),(7,iW x_354.1),(8,bW x_354.2.1),(9,iW x_272.2.2),(10,iW x_354.2.2),(52,bW (decide (x_354.2.2 < (a0.length : Int))))],[]⟩ rfl rfl ?_
      refine AWP.cond (.t rfl) (fun hc => ?_) (fun hc => ?_)
      ·have h := iteT hc h
       refine AWP.skip ?_
       refine AWP.seq ?_
       refine AWP.block ?_
       refine AWP.seq ?_
       refine AWP.rg (.cons (.assign (l1 rfl) (.const _ _ _))<| .nil _ _ _) ?_
       refine AWP.vs ⟨[(0,rW β1 a0 e63),(7,iW x_354.1),(8,bW x_354.2.1),(9,iW x_272.2.2),(10,iW x_354.2.2),(11,iW (0 : Int))],[]⟩ rfl rfl ?_
       refine AWP.seq ?_
       refine AWP.seq ?_
       refine AWP.rg (.cons (.assign (l1 rfl) (.const _ _ _))<| .nil _ _ _) ?_
       refine AWP.vs ⟨[(0,rW β1 a0 e63),(7,iW x_354.1),(8,bW x_354.2.1),(9,iW x_272.2.2),(10,iW x_354.2.2),(11,iW (0 : Int)),(12,iW (0 : Int))],[]⟩ rfl rfl ?_
       refine AWP.joinB' (S := fun p_387 : Int => ⟨[(0,rW β1 a0 e63),(7,iW x_354.1),(8,bW x_354.2.1),(9,iW x_272.2.2),(10,iW x_354.2.2),(11,iW p_387)],[]⟩) h (fun p_387 h => ?_) (fun k_388 h => ?_)
       ·refine AWP.seq ?_
        obtain ⟨y_389,hy_389,h⟩ := bindS h
        obtain ⟨y_390,hy_390,h⟩ := bindS h
        obtain ⟨t13_391,ht13_391,h⟩ := letS h
        refine AWP.dw mixed [(0,rW β1 a0 e63),(7,iW x_354.1),(8,bW x_354.2.1),(9,iW x_272.2.2),(10,iW x_354.2.2),(11,iW p_387)] [] [dO [0] 92 (rW β1 a0 e63),dO [3] 93 (iW x_272.2.2),dO [6,7] 94 (.rptr β1 [iW y_389.Rl,iW y_389.Ln,iW y_389.Due]),dO [8] 95 (.rptr β1 [iW y_389.Rl,iW y_389.Ln,iW y_389.Due]),dO [9] 96 (iW y_389.Rl),dO [5] 97 (iW p_387),dO [10,11] 98 (iW (IntKind.wrap .i64 (y_389.Rl + p_387))),dO [0] 99 (rW β1 a0 e63),dO [4] 100 (iW x_354.2.2),dO [13,14] 101 (.rptr β1 [iW y_390.Rl,iW y_390.Ln,iW y_390.Due]),dO [15] 102 (.rptr β1 [iW y_390.Due]),dO [16] 103 (iW y_390.Due),dO [12,17] 104 (iW (IntKind.wrap .i64 ((IntKind.wrap .i64 (y_389.Rl + p_387)) - y_390.Due))),dO [18] 13 (iW (IntKind.wrap .i64 ((IntKind.wrap .i64 (y_389.Rl + p_387)) - y_390.Due)))] [] [[]] [[],[],[0,2],[0,3],[0,4],[],[0,6],[],[],[7,9],[7,10],[7,11],[0,12],[0,13]] [0,1,2,3,4,5,19] rfl rfl (by kernel_rfl) rfl (.p rfl (fun _ q _ => .move (l1 rfl) (q.t 0 rfl))<| .p rfl (fun _ q _ => .move (l1 rfl) (q.t 0 rfl))<| .p rfl (fun _ q _ => .indexRd (enc := e63) (l1 rfl) (q.t 0 rfl) (q.t 1 rfl) Tryz.underlying22 sz79 encR63_len rfl hy_389)<| .p rfl (fun _ q _ => .fieldR (l1 rfl) (q.t 0 rfl) fld79_0 rfl)<| .p rfl (fun _ q _ => .loadR (v := iW y_389.Rl) (l1 rfl) (q.t 0 rfl) one3 rfl)<| .p rfl (fun _ q _ => .move (l1 rfl) (q.t 0 rfl))<| .p rfl (fun _ q _ => .add (l1 rfl) (q.t 0 rfl) (q.t 1 rfl))<| .p rfl (fun _ q _ => .move (l1 rfl) (q.t 0 rfl))<| .p rfl (fun _ q _ => .move (l1 rfl) (q.t 0 rfl))<| .p rfl (fun _ q _ => .indexRd (enc := e63) (l1 rfl) (q.t 0 rfl) (q.t 1 rfl) Tryz.underlying22 sz79 encR63_len rfl hy_390)<| .p rfl (fun _ q _ => .fieldR (l1 rfl) (q.t 0 rfl) fld79_2 rfl)<| .p rfl (fun _ q _ => .loadR (v := iW y_390.Due) (l1 rfl) (q.t 0 rfl) one3 rfl)<| .p rfl (fun _ q _ => .sub (l1 rfl) (q.t 0 rfl) (q.t 1 rfl))<| .p rfl (fun _ q _ => .assign (l1 rfl) (q.t 0 rfl))<| .nil _) rfl rfl ?_
        refine AWP.vc (s' := ⟨[(0,rW β1 a0 e63),(7,iW x_354.1),(8,bW x_354.2.1),(9,iW x_272.2.2),(10,iW x_354.2.2),(11,iW p_387),(13,iW t13_391)],[]⟩) (by subst ht13_391; exact VC.sub (.of rfl) (.n _)) ?_
        refine AWP.seq ?_
        refine AWP.rg (.cons (.move (l1 rfl) (.t rfl))<| .cons (.gtr (l1 rfl) (.t rfl) (.const _ _ _))<| .cons (.move (l1 rfl) (.t rfl))<| .guard (j := 2) (dj := 107) rfl (l1 rfl) rfl (l1 rfl) (fun hg => .move (l1 rfl) (.t rfl))<| .guard (j := 2) (dj := 107) rfl (l1 rfl) rfl (l1 rfl) (fun hg => .not (l1 rfl) (.gd hg (.t rfl)))<| .guard (j := 2) (dj := 107) rfl (l1 rfl) rfl (l1 rfl) (fun hg => .move (l1 rfl) (.gd hg (.t rfl)))<| .guard2 (j := 5) (dj := 110) rfl (l1 rfl) rfl (l1 rfl) (fun hg => .move (l1 rfl) (.t rfl))<| .guard2 (j := 5) (dj := 110) rfl (l1 rfl) rfl (l1 rfl) (fun hg => .move (l1 rfl) (.t rfl))<| .guard2 (j := 5) (dj := 110) rfl (l1 rfl) rfl (l1 rfl) (fun hg => .gtr (l1 rfl) (.gd hg (.t rfl)) (.gd hg (.t rfl)))<| .guard (j := 2) (dj := 107) rfl (l1 rfl) rfl (l1 rfl) (fun hg => .pickOr (l1 rfl) (.gd hg (.t rfl)) (.const _ _ _) (.gdAnd hg (.t rfl)))<| .cons (.pickAnd (l1 rfl) (.t rfl) (.t rfl) (.const _ _ _))<| .nil _ _ _) ?_
        refine AWP.vs ⟨[(0,rW β1 a0 e63),(7,iW x_354.1),(8,bW x_354.2.1),(9,iW x_272.2.2),(10,iW x_354.2.2),(13,iW t13_391),(115,bW ((decide ((0 : Int) < p_387)) && ((!x_354.2.1) || (decide (x_354.1 < t13_391)))))],[]⟩ rfl rfl ?_
        refine AWP.join' (S := fun p_392 : Int × Bool => ⟨[(0,rW β1 a0 e63),(7,iW p_392.1),(8,bW p_392.2),(9,iW x_272.2.2),(10,iW x_354.2.2)],[]⟩) h (fun p_392 h => ?_) (fun k_393 h => ?_)
        ·obtain ⟨t10_394,ht10_394,h⟩ := letS h
         refine AWP.rg (.cons (.move (l1 rfl) (.t rfl))<| .cons (.add (l1 rfl) (.t rfl) (.const _ _ _))<| .cons (.assign (l1 rfl) (.t rfl))<| .nil _ _ _) ?_
         exact endJ (p_392.1,p_392.2,t10_394) h (by subst ht10_394; exact VC.sub (.of rfl) (.n _))
        ·refine AWP.cond (.t rfl) (fun hc => ?_) (fun hc => ?_)
         ·have h := iteT hc h
          refine AWP.rg (.cons (.move (l1 rfl) (.t rfl))<| .cons (.assign (l1 rfl) (.t rfl))<| .cons (.assign (l1 rfl) (.const _ _ _))<| .nil _ _ _) ?_
          exact endJ (t13_391,true) h (VC.sub (.of rfl) (.n _))
         ·have h := iteF hc h
          refine AWP.skip ?_
          exact endJ (x_354.1,x_354.2.1) h (VC.sub (.of rfl) (.n _))
       ·refine AWP.vs ⟨[(0,rW β1 a0 e63),(7,iW x_354.1),(8,bW x_354.2.1),(9,iW x_272.2.2),(10,iW x_354.2.2),(11,iW (0 : Int)),(12,iW (0 : Int))],[]⟩ rfl rfl ?_
        refine AWP.loopM (S := fun x_376 : Int × Int => ⟨[(0,rW β1 a0 e63),(7,iW x_354.1),(8,bW x_354.2.1),(9,iW x_272.2.2),(10,iW x_354.2.2),(11,iW x_376.1),(12,iW x_376.2)],[]⟩) (x := ((0 : Int),(0 : Int))) (fun nx_377 x_376 h => ?_) h
        unfold m76_L14 at h
        refine AWP.seq ?_
        refine AWP.seq ?_
        refine AWP.rg (.cons (.move (l1 rfl) (.t rfl))<| .cons (.move (l1 rfl) (.t rfl))<| .cons (.lenRd (l1 rfl) (.t rfl) Tryz.underlying22)<| .cons (.lss (l1 rfl) (.t rfl) (.t rfl))<| .nil _ _ _) ?_
        refine AWP.vs ⟨[(0,rW β1 a0 e63),(7,iW x_354.1),(8,bW x_354.2.1),(9,iW x_272.2.2),(10,iW x_354.2.2),(11,iW x_376.1),(12,iW x_376.2),(58,bW (decide (x_376.2 < (a0.length : Int))))],[]⟩ rfl rfl ?_
        refine AWP.cond (.t rfl) (fun hc => ?_) (fun hc => ?_)
        ·have h := iteT hc h
         refine AWP.skip ?_
         refine AWP.seq ?_
         refine AWP.block ?_
         refine AWP.seq ?_
         obtain ⟨y_378,hy_378,h⟩ := bindS h
         obtain ⟨y_379,hy_379,h⟩ := bindS h
         obtain ⟨y_380,hy_380,h⟩ := bindS h
         obtain ⟨y_381,hy_381,h⟩ := bindS h
         refine AWP.dw mixed [(0,rW β1 a0 e63),(7,iW x_354.1),(8,bW x_354.2.1),(9,iW x_272.2.2),(10,iW x_354.2.2),(11,iW x_376.1),(12,iW x_376.2),(58,bW (decide (x_376.2 < (a0.length : Int))))] [] [dO [0] 61 (rW β1 a0 e63),dO [6] 62 (iW x_376.2),dO [8,9] 63 (.rptr β1 [iW y_378.Rl,iW y_378.Ln,iW y_378.Due]),dO [10] 64 (.rptr β1 [iW y_378.Rl,iW y_378.Ln,iW y_378.Due]),dO [11] 65 (iW y_378.Rl),dO [0] 66 (rW β1 a0 e63),dO [3] 67 (iW x_272.2.2),dO [13,14] 68 (.rptr β1 [iW y_379.Rl,iW y_379.Ln,iW y_379.Due]),dO [15] 69 (.rptr β1 [iW y_379.Rl,iW y_379.Ln,iW y_379.Due]),dO [16] 70 (iW y_379.Rl),dO [12,17] 71 (bW (decide (y_379.Rl ≤ y_378.Rl))),dO [18] 72 (bW (decide (y_379.Rl ≤ y_378.Rl))),dO [19,0] 73 (.gd (decide (y_379.Rl ≤ y_378.Rl)) (rW β1 a0 e63)),dO [19,6] 74 (.gd (decide (y_379.Rl ≤ y_378.Rl)) (iW x_376.2)),dO [19,20,21] 75 (.gd (decide (y_379.Rl ≤ y_378.Rl)) (.rptr β1 [iW y_380.Rl,iW y_380.Ln,iW y_380.Due])),dO [19,22] 76 (.gd (decide (y_379.Rl ≤ y_378.Rl)) (.rptr β1 [iW y_380.Due])),dO [19,23] 77 (.gd (decide (y_379.Rl ≤ y_378.Rl)) (iW y_380.Due)),dO [19,0] 78 (.gd (decide (y_379.Rl ≤ y_378.Rl)) (rW β1 a0 e63)),dO [19,4] 79 (.gd (decide (y_379.Rl ≤ y_378.Rl)) (iW x_354.2.2)),dO [19,25,26] 80 (.gd (decide (y_379.Rl ≤ y_378.Rl)) (.rptr β1 [iW y_381.Rl,iW y_381.Ln,iW y_381.Due])),dO [19,27] 81 (.gd (decide (y_379.Rl ≤ y_378.Rl)) (.rptr β1 [iW y_381.Due])),dO [19,28] 82 (.gd (decide (y_379.Rl ≤ y_378.Rl)) (iW y_381.Due)),dO [19,24,29] 83 (.gd (decide (y_379.Rl ≤ y_378.Rl)) (bW (decide (y_380.Due ≤ y_381.Due)))),dO [19,30] 84 (bW ((decide (y_379.Rl ≤ y_378.Rl)) && (decide (y_380.Due ≤ y_381.Due))))] [] [[]] [[],[],[0,2],[0,3],[0,4],[],[],[5,7],[5,8],[5,9],[0,10],[0,11],[0,12],[0,12],[0,14],[0,15],[0,16],[0,12],[0,12],[0,12,17,19],[0,12,17,20],[0,12,17,21],[0,22],[0,23]] [0,1,2,3,4,5,6,31] rfl rfl (by kernel_rfl) rfl (.p rfl (fun _ q _ => .move (l1 rfl) (q.t 0 rfl))<| .p rfl (fun _ q _ => .move (l1 rfl) (q.t 0 rfl))<| .p rfl (fun _ q _ => .indexRd (enc := e63) (l1 rfl) (q.t 0 rfl) (q.t 1 rfl) Tryz.underlying22 sz79 encR63_len rfl hy_378)<| .p rfl (fun _ q _ => .fieldR (l1 rfl) (q.t 0 rfl) fld79_0 rfl)<| .p rfl (fun _ q _ => .loadR (v := iW y_378.Rl) (l1 rfl) (q.t 0 rfl) one3 rfl)<| .p rfl (fun _ q _ => .move (l1 rfl) (q.t 0 rfl))<| .p rfl (fun _ q _ => .move (l1 rfl) (q.t 0 rfl))<| .p rfl (fun _ q _ => .indexRd (enc := e63) (l1 rfl) (q.t 0 rfl) (q.t 1 rfl) Tryz.underlying22 sz79 encR63_len rfl hy_379)<| .p rfl (fun _ q _ => .fieldR (l1 rfl) (q.t 0 rfl) fld79_0 rfl)<| .p rfl (fun _ q _ => .loadR (v := iW y_379.Rl) (l1 rfl) (q.t 0 rfl) one3 rfl)<| .p rfl (fun _ q _ => .geq (l1 rfl) (q.t 0 rfl) (q.t 1 rfl))<| .p rfl (fun _ q _ => .move (l1 rfl) (q.t 0 rfl))<| .gt rfl rfl rfl rfl rfl (fun hg _ q _ => .move (l1 rfl) (q.t 1 rfl))<| .gt rfl rfl rfl rfl rfl (fun hg _ q _ => .move (l1 rfl) (q.t 1 rfl))<| .gt rfl rfl rfl rfl rfl (fun hg _ q _ => .indexRd (enc := e63) (l1 rfl) (.gd hg (q.t 1 rfl)) (.gd hg (q.t 2 rfl)) Tryz.underlying22 sz79 encR63_len rfl (gdB hy_380 hg))<| .gt rfl rfl rfl rfl rfl (fun hg _ q _ => .fieldR (sub := [iW y_380.Due]) (l1 rfl) (.gd hg (q.t 1 rfl)) fld79_2 rfl)<| .gt rfl rfl rfl rfl rfl (fun hg _ q _ => .loadR (v := iW y_380.Due) (l1 rfl) (.gd hg (q.t 1 rfl)) one3 rfl)<| .gt rfl rfl rfl rfl rfl (fun hg _ q _ => .move (l1 rfl) (q.t 1 rfl))<| .gt rfl rfl rfl rfl rfl (fun hg _ q _ => .move (l1 rfl) (q.t 1 rfl))<| .gt rfl rfl rfl rfl rfl (fun hg _ q _ => .indexRd (enc := e63) (l1 rfl) (.gd hg (q.t 1 rfl)) (.gd hg (q.t 2 rfl)) Tryz.underlying22 sz79 encR63_len rfl (gdB hy_381 hg))<| .gt rfl rfl rfl rfl rfl (fun hg _ q _ => .fieldR (sub := [iW y_381.Due]) (l1 rfl) (.gd hg (q.t 1 rfl)) fld79_2 rfl)<| .gt rfl rfl rfl rfl rfl (fun hg _ q _ => .loadR (v := iW y_381.Due) (l1 rfl) (.gd hg (q.t 1 rfl)) one3 rfl)<| .gt rfl rfl rfl rfl rfl (fun hg _ q _ => .leq (l1 rfl) (.gd hg (q.t 1 rfl)) (.gd hg (q.t 2 rfl)))<| .p rfl (fun _ q _ => .pickAnd (l1 rfl) (q.t 0 rfl) (q.t 1 rfl) (.const _ _ _))<| .nil _) rfl rfl ?_
         refine AWP.vs ⟨[(0,rW β1 a0 e63),(7,iW x_354.1),(8,bW x_354.2.1),(9,iW x_272.2.2),(10,iW x_354.2.2),(11,iW x_376.1),(12,iW x_376.2),(84,bW ((decide (y_379.Rl ≤ y_378.Rl)) && (decide (y_380.Due ≤ y_381.Due))))],[]⟩ rfl rfl ?_
         refine AWP.join' (S := fun p_384 : Int => ⟨[(0,rW β1 a0 e63),(7,iW x_354.1),(8,bW x_354.2.1),(9,iW x_272.2.2),(10,iW x_354.2.2),(11,iW p_384),(12,iW x_376.2)],[]⟩) h (fun p_384 h => ?_) (fun k_385 h => ?_)
         ·obtain ⟨t12_386,ht12_386,h⟩ := letS h
          refine AWP.rg (.cons (.move (l1 rfl) (.t rfl))<| .cons (.add (l1 rfl) (.t rfl) (.const _ _ _))<| .cons (.assign (l1 rfl) (.t rfl))<| .nil _ _ _) ?_
          exact endJ (p_384,t12_386) h (by subst ht12_386; exact VC.sub (.of rfl) (.n _))
         ·refine AWP.cond (.t rfl) (fun hc => ?_) (fun hc => ?_)
          ·have h := iteT hc h
           obtain ⟨y_382,hy_382,h⟩ := bindS h
           obtain ⟨t11_383,ht11_383,h⟩ := letS h
           refine AWP.rg (.cons (.move (l1 rfl) (.t rfl))<| .cons (.move (l1 rfl) (.t rfl))<| .cons (.move (l1 rfl) (.t rfl))<| .cons (.indexRd (enc := e63) (l1 rfl) (.t rfl) (.t rfl) Tryz.underlying22 sz79 encR63_len rfl hy_382)<| .cons (.fieldR (l1 rfl) (.t rfl) fld79_1 rfl)<| .cons (.loadR (v := iW y_382.Ln) (l1 rfl) (.t rfl) one3 rfl)<| .cons (.add (l1 rfl) (.t rfl) (.t rfl))<| .cons (.assign (l1 rfl) (.t rfl))<| .nil _ _ _) ?_
           exact endJ t11_383 h (by subst ht11_383; exact VC.sub (.of rfl) (.n _))
          ·have h := iteF hc h
           refine AWP.skip ?_
           exact endJ x_376.1 h (VC.sub (.of rfl) (.n _))
        ·have h := iteF hc h
         refine AWP.exit ?_
         exact endJ x_376.1 h (VC.sub (.of rfl) (.n _))
      ·have h := iteF hc h
       refine AWP.exit ?_
       exact endJ (x_354.1,x_354.2.1) h (VC.sub (.of rfl) (.n _))
    ·have h := iteF hc h
     refine AWP.exit ?_
     exact endJ x_272.1 h (VC.sub (.of rfl) (.n _))
  ·have h := iteF hc h
   refine AWP.skip ?_
   refine AWP.seq ?_
   refine AWP.rg (.cons (.assign (l1 rfl) (.const _ _ _))<| .nil _ _ _) ?_
   refine AWP.vs ⟨[(0,rW β1 a0 e63),(5,iW p_20),(7,iW (0 : Int)),(14,.sc (.slice none 0 0))],[]⟩ rfl rfl ?_
   refine AWP.seq ?_
   refine AWP.rg (.cons (.assign (l1 rfl) (.const _ _ _))<| .nil _ _ _) ?_
   refine AWP.vs ⟨[(0,rW β1 a0 e63),(5,iW p_20),(7,iW (0 : Int)),(14,.sc (.slice none 0 0)),(15,.sc (.slice none 0 0))],[]⟩ rfl rfl ?_
   refine AWP.seq ?_
   refine AWP.seq ?_
   refine AWP.rg (.cons (.assign (l1 rfl) (.const _ _ _))<| .nil _ _ _) ?_
   refine AWP.vs ⟨[(0,rW β1 a0 e63),(5,iW p_20),(7,iW (0 : Int)),(14,.sc (.slice none 0 0)),(15,.sc (.slice none 0 0)),(16,iW (0 : Int))],[]⟩ rfl rfl ?_
   refine AWP.joinB' (S := fun p_422 : (List R63) × (List Int) => ⟨[(5,iW p_20),(7,iW (0 : Int)),(14,.own 1 3 0 p_422.1.length),(15,.own 2 1 0 p_422.2.length)],[(1,⟨79,true,p_422.1.flatMap e63⟩),(2,⟨3,true,p_422.2.flatMap eW⟩)]⟩) h (fun p_422 h => ?_) (fun k_423 h => ?_)
   ·refine AWP.seq ?_
    obtain ⟨y_424,hy_424,h⟩ := bindS h
    refine AWP.rg (.cons (.move (l1 rfl) (.t rfl))<| .cons (.call0 (bw := true) (l1 rfl) (c88 (β1 := true) n p_422.1 hy_424) (.cons (.t rfl) (.lendRow rfl rfl encR63_len rfl) (.nil)) rfl)<| .cons (.move (l1 rfl) (.t rfl))<| .cons (.extract (l1 rfl) (.t rfl) rfl)<| .cons (.extract (l1 rfl) (.t rfl) rfl)<| .cons (.assign (l1 rfl) (.t rfl))<| .cons (.assign (l1 rfl) (.t rfl))<| .nil _ _ _) ?_
    refine AWP.vs ⟨[(5,iW p_20),(7,iW (0 : Int)),(15,.own 2 1 0 p_422.2.length),(17,rW false y_424.1 eW)],[(2,⟨3,true,p_422.2.flatMap eW⟩)]⟩ rfl rfl ?_
    refine AWP.seq ?_
    obtain ⟨y_425,hy_425,h⟩ := bindS h
    refine AWP.rg (.cons (.move (l1 rfl) (.t rfl))<| .cons (.call0 (bw := true) (l1 rfl) (c89 (β1 := true) n p_422.2 hy_425) (.cons (.t rfl) (.lendRow rfl rfl (encI_len .i64) rfl) (.nil)) rfl)<| .cons (.assign (l1 rfl) (.t rfl))<| .nil _ _ _) ?_
    refine AWP.vs ⟨[(5,iW p_20),(7,iW (0 : Int)),(15,rW false y_425 eW),(17,rW false y_424.1 eW)],[]⟩ rfl rfl ?_
    refine AWP.seq ?_
    refine AWP.seq ?_
    refine AWP.rg (.cons (.assign (l1 rfl) (.const _ _ _))<| .nil _ _ _) ?_
    refine AWP.vs ⟨[(5,iW p_20),(7,iW (0 : Int)),(15,rW false y_425 eW),(17,rW false y_424.1 eW),(19,iW (0 : Int))],[]⟩ rfl rfl ?_
    refine AWP.joinB' (S := fun p_442 : Int => ⟨[(7,iW p_442)],[]⟩) h (fun p_442 h => ?_) (fun k_443 h => ?_)
    ·refine AWP.seq ?_
     refine AWP.rg (.cons (.move (l1 rfl) (.t rfl))<| .cons (.assign (l1 rfl) (.t rfl))<| .nil _ _ _) ?_
     refine AWP.ret ?_
     obtain rfl := Option.some.inj h
     refine retJ (Res.vc (s' := ⟨[(4,iW p_442)],[]⟩) (VC.sub (.of rfl) (.n _)) ?_)
     refine Res.drop (H := []) rfl ?_
     exact Res.of rfl (.cons (.tmp rfl) (.nil)) rfl rfl
    ·refine AWP.vs ⟨[(5,iW p_20),(7,iW (0 : Int)),(15,rW false y_425 eW),(17,rW false y_424.1 eW),(19,iW (0 : Int))],[]⟩ rfl rfl ?_
     refine AWP.loopM (S := fun x_436 : Int × Int => ⟨[(5,iW p_20),(7,iW x_436.1),(15,rW false y_425 eW),(17,rW false y_424.1 eW),(19,iW x_436.2)],[]⟩) (x := ((0 : Int),(0 : Int))) (fun nx_437 x_436 h => ?_) h
     unfold m76_L16 at h
     refine AWP.seq ?_
     refine AWP.seq ?_
     refine AWP.rg (.cons (.move (l1 rfl) (.t rfl))<| .cons (.move (l1 rfl) (.t rfl))<| .cons (.lenRd (l1 rfl) (.t rfl) Tryz.underlying23)<| .cons (.lss (l1 rfl) (.t rfl) (.t rfl))<| .nil _ _ _) ?_
     refine AWP.vs ⟨[(5,iW p_20),(7,iW x_436.1),(15,rW false y_425 eW),(17,rW false y_424.1 eW),(19,iW x_436.2),(158,bW (decide (x_436.2 < (y_424.1.length : Int))))],[]⟩ rfl rfl ?_
     refine AWP.cond (.t rfl) (fun hc => ?_) (fun hc => ?_)
     ·have h := iteT hc h
      refine AWP.skip ?_
      refine AWP.seq ?_
      refine AWP.block ?_
      obtain ⟨y_438,hy_438,h⟩ := bindS h
      obtain ⟨y_439,hy_439,h⟩ := bindS h
      obtain ⟨t7_440,ht7_440,h⟩ := letS h
      refine AWP.dw mixed [(5,iW p_20),(7,iW x_436.1),(15,rW false y_425 eW),(17,rW false y_424.1 eW),(19,iW x_436.2),(158,bW (decide (x_436.2 < (y_424.1.length : Int))))] [(1,[14])] [dO [1] 161 (iW x_436.1),dO [3] 162 (rW false y_424.1 eW),dO [4] 163 (iW x_436.2),dO [7,8] 164 (.rptr false [iW y_438]),dO [9] 165 (iW y_438),dO [0] 166 (iW p_20),dO [10,11] 167 (iW (IntKind.wrap .i64 (y_438 + p_20))),dO [2] 168 (rW false y_425 eW),dO [4] 169 (iW x_436.2),dO [13,14] 170 (.rptr false [iW y_439]),dO [15] 171 (iW y_439),dO [12,16] 172 (iW (IntKind.wrap .i64 ((IntKind.wrap .i64 (y_438 + p_20)) - y_439))),dO [17] 173 (iW (if (IntKind.wrap .i64 ((IntKind.wrap .i64 (y_438 + p_20)) - y_439)) > (0 : Int) then (IntKind.wrap .i64 ((IntKind.wrap .i64 (y_438 + p_20)) - y_439)) else (0 : Int))),dO [6,18] 174 (iW (IntKind.wrap .i64 (x_436.1 + (if (IntKind.wrap .i64 ((IntKind.wrap .i64 (y_438 + p_20)) - y_439)) > (0 : Int) then (IntKind.wrap .i64 ((IntKind.wrap .i64 (y_438 + p_20)) - y_439)) else (0 : Int))))),dO [19] 7 (iW (IntKind.wrap .i64 (x_436.1 + (if (IntKind.wrap .i64 ((IntKind.wrap .i64 (y_438 + p_20)) - y_439)) > (0 : Int) then (IntKind.wrap .i64 ((IntKind.wrap .i64 (y_438 + p_20)) - y_439)) else (0 : Int)))))] [] [[]] [[],[],[],[1,3],[1,4],[],[1,6],[],[],[7,9],[7,10],[1,11],[1,12],[0,13],[0,14]] [0,20,2,3,4] rfl rfl (by kernel_rfl) rfl (.p rfl (fun _ q _ => .move (l1 rfl) (q.t 0 rfl))<| .p rfl (fun _ q _ => .move (l1 rfl) (q.t 0 rfl))<| .p rfl (fun _ q _ => .move (l1 rfl) (q.t 0 rfl))<| .p rfl (fun _ q _ => .indexRd (enc := eW) (l1 rfl) (q.t 0 rfl) (q.t 1 rfl) Tryz.underlying23 sz3 (encI_len .i64) rfl hy_438)<| .p rfl (fun _ q _ => .loadR (v := iW y_438) (l1 rfl) (q.t 0 rfl) one3 rfl)<| .p rfl (fun _ q _ => .move (l1 rfl) (q.t 0 rfl))<| .p rfl (fun _ q _ => .add (l1 rfl) (q.t 0 rfl) (q.t 1 rfl))<| .p rfl (fun _ q _ => .move (l1 rfl) (q.t 0 rfl))<| .p rfl (fun _ q _ => .move (l1 rfl) (q.t 0 rfl))<| .p rfl (fun _ q _ => .indexRd (enc := eW) (l1 rfl) (q.t 0 rfl) (q.t 1 rfl) Tryz.underlying23 sz3 (encI_len .i64) rfl hy_439)<| .p rfl (fun _ q _ => .loadR (v := iW y_439) (l1 rfl) (q.t 0 rfl) one3 rfl)<| .p rfl (fun _ q _ => .sub (l1 rfl) (q.t 0 rfl) (q.t 1 rfl))<| .p rfl (fun _ q _ => .max2 (l1 rfl) (.const _ _ _) (q.t 0 rfl))<| .p rfl (fun _ q _ => .add (l1 rfl) (q.t 0 rfl) (q.t 1 rfl))<| .p rfl (fun _ q _ => .assign (l1 rfl) (q.t 0 rfl))<| .nil _) rfl rfl ?_
      refine AWP.vc (s' := ⟨[(5,iW p_20),(7,iW t7_440),(15,rW false y_425 eW),(17,rW false y_424.1 eW),(19,iW x_436.2)],[]⟩) (by subst ht7_440; exact VC.sub (.of rfl) (.n _)) ?_
      obtain ⟨t19_441,ht19_441,h⟩ := letS h
      refine AWP.rg (.cons (.move (l1 rfl) (.t rfl))<| .cons (.add (l1 rfl) (.t rfl) (.const _ _ _))<| .cons (.assign (l1 rfl) (.t rfl))<| .nil _ _ _) ?_
      exact endJ (t7_440,t19_441) h (by subst ht19_441; exact VC.sub (.of rfl) (.n _))
     ·have h := iteF hc h
      refine AWP.exit ?_
      exact endJ x_436.1 h (VC.sub (.of rfl) (.n _))
   ·refine AWP.vc (VC.nilOwn (d := 14) (t := 1) (sz := 3) (E := 79) rfl (nm rfl)) ?_
    refine AWP.vc (VC.nilOwn (d := 15) (t := 2) (sz := 1) (E := 3) rfl (nm rfl)) ?_
    refine AWP.vs ⟨[(0,rW β1 a0 e63),(5,iW p_20),(7,iW (0 : Int)),(14,.own 1 3 0 ([] : List R63).length),(15,.own 2 1 0 ([] : List Int).length),(16,iW (0 : Int))],[(1,⟨79,true,([] : List R63).flatMap e63⟩),(2,⟨3,true,([] : List Int).flatMap eW⟩)]⟩ rfl rfl ?_
    refine AWP.loopM (S := fun x_414 : Int × (List R63) × (List Int) => ⟨[(0,rW β1 a0 e63),(5,iW p_20),(7,iW (0 : Int)),(14,.own 1 3 0 x_414.2.1.length),(15,.own 2 1 0 x_414.2.2.length),(16,iW x_414.1)],[(1,⟨79,true,x_414.2.1.flatMap e63⟩),(2,⟨3,true,x_414.2.2.flatMap eW⟩)]⟩) (x := ((0 : Int),([] : List R63),([] : List Int))) (fun nx_415 x_414 h => ?_) h
    unfold m76_L15 at h
    refine AWP.seq ?_
    refine AWP.seq ?_
    refine AWP.rg (.cons (.move (l1 rfl) (.t rfl))<| .cons (.move (l1 rfl) (.t rfl))<| .cons (.lenRd (l1 rfl) (.t rfl) Tryz.underlying22)<| .cons (.lss (l1 rfl) (.t rfl) (.t rfl))<| .nil _ _ _) ?_
    refine AWP.vs ⟨[(0,rW β1 a0 e63),(5,iW p_20),(7,iW (0 : Int)),(14,.own 1 3 0 x_414.2.1.length),(15,.own 2 1 0 x_414.2.2.length),(16,iW x_414.1),(121,bW (decide (x_414.1 < (a0.length : Int))))],[(1,⟨79,true,x_414.2.1.flatMap e63⟩),(2,⟨3,true,x_414.2.2.flatMap eW⟩)]⟩ rfl rfl ?_
    refine AWP.cond (.t rfl) (fun hc => ?_) (fun hc => ?_)
    ·have h := iteT hc h
     refine AWP.skip ?_
     refine AWP.seq ?_
     refine AWP.block ?_
     refine AWP.seq ?_
     obtain ⟨y_416,hy_416,h⟩ := bindS h
     obtain ⟨y_417,hy_417,h⟩ := bindS h
     obtain ⟨l1_418,hl1_418,h⟩ := bindS h
     refine AWP.dw mixed [(0,rW β1 a0 e63),(5,iW p_20),(7,iW (0 : Int)),(14,.own 1 3 0 x_414.2.1.length),(15,.own 2 1 0 x_414.2.2.length),(16,iW x_414.1),(121,bW (decide (x_414.1 < (a0.length : Int))))] [(3,[15,16]),(7,[15])] [dO [3] 124 (.own 1 3 0 x_414.2.1.length),⟨[0],0,1,some (125,rW β1 a0 e63),[]⟩,⟨[5],0,1,some (126,iW x_414.1),[]⟩,⟨[8,9],0,1,some (127,.rptr β1 [iW y_416.Rl,iW y_416.Ln,iW y_416.Due]),[]⟩,⟨[10],0,1,some (128,.rptr β1 [iW y_416.Rl,iW y_416.Ln,iW y_416.Due]),[]⟩,⟨[11],0,1,some (129,iW y_416.Rl),[]⟩,⟨[1],0,1,some (130,iW p_20),[]⟩,⟨[12,13],0,1,some (131,iW (IntKind.wrap .i64 (y_416.Rl - p_20))),[]⟩,⟨[0],0,1,some (132,rW β1 a0 e63),[]⟩,⟨[5],0,1,some (133,iW x_414.1),[]⟩,⟨[15,16],0,1,some (134,.rptr β1 [iW y_417.Rl,iW y_417.Ln,iW y_417.Due]),[]⟩,⟨[17],0,1,some (135,.rptr β1 [iW y_417.Ln,iW y_417.Due]),[]⟩,⟨[18],0,1,some (136,iW y_417.Ln),[]⟩,⟨[14,19],0,1,some (137,.agg [iW (IntKind.wrap .i64 (y_416.Rl - p_20)),iW y_417.Ln,iW (0 : Int)]),[]⟩,⟨[20],0,1,some (138,rW false ([(R63.mk (IntKind.wrap .i64 (y_416.Rl - p_20)) y_417.Ln (0 : Int))] : List R63) e63),[]⟩,⟨[7,21],0,0,some (139,.own 1 3 0 l1_418.length),[1]⟩,⟨[22],1,1,some (14,.own 1 3 0 l1_418.length),[]⟩] [15] [[(1,⟨79,true,x_414.2.1.flatMap e63⟩),(2,⟨3,true,x_414.2.2.flatMap eW⟩)],[(1,⟨79,true,l1_418.flatMap e63⟩),(2,⟨3,true,x_414.2.2.flatMap eW⟩)]] [[],[],[],[1,3],[1,4],[1,5],[],[1,7],[],[],[8,10],[8,11],[8,12],[1,13],[1,14],[0,15],[0,16]] [0,1,2,23,4,5] rfl rfl (by kernel_rfl) rfl (.read rfl (.c (.put (fun E hE => .move (l1 rfl) (hE.t 0 rfl))) (.n))<| .p rfl (fun _ q _ => .move (l1 rfl) (q.t 0 rfl))<| .p rfl (fun _ q _ => .move (l1 rfl) (q.t 0 rfl))<| .p rfl (fun _ q _ => .indexRd (enc := e63) (l1 rfl) (q.t 0 rfl) (q.t 1 rfl) Tryz.underlying22 sz79 encR63_len rfl hy_416)<| .p rfl (fun _ q _ => .fieldR (l1 rfl) (q.t 0 rfl) fld79_0 rfl)<| .p rfl (fun _ q _ => .loadR (v := iW y_416.Rl) (l1 rfl) (q.t 0 rfl) one3 rfl)<| .p rfl (fun _ q _ => .move (l1 rfl) (q.t 0 rfl))<| .p rfl (fun _ q _ => .sub (l1 rfl) (q.t 0 rfl) (q.t 1 rfl))<| .p rfl (fun _ q _ => .move (l1 rfl) (q.t 0 rfl))<| .p rfl (fun _ q _ => .move (l1 rfl) (q.t 0 rfl))<| .p rfl (fun _ q _ => .indexRd (enc := e63) (l1 rfl) (q.t 0 rfl) (q.t 1 rfl) Tryz.underlying22 sz79 encR63_len rfl hy_417)<| .p rfl (fun _ q _ => .fieldR (l1 rfl) (q.t 0 rfl) fld79_1 rfl)<| .p rfl (fun _ q _ => .loadR (v := iW y_417.Ln) (l1 rfl) (q.t 0 rfl) one3 rfl)<| .p rfl (fun _ q _ => .buildO (offs := [(0,1),(1,1),(2,1)]) (l1 rfl) (.cons (q.t 0 rfl) (by first | exact ⟨rfl,rfl⟩ | rfl) (.cons (q.t 1 rfl) (by first | exact ⟨rfl,rfl⟩ | rfl) (.cons (.const _ _ _) (by first | exact ⟨rfl,rfl⟩ | rfl) (.nil)))) zero79 offs79 rfl)<| .p rfl (fun _ q _ => .frzAny (fun t ht => AStep.buildSlice (t := t) (out := ([(R63.mk (IntKind.wrap .i64 (y_416.Rl - p_20)) y_417.Ln (0 : Int))] : List R63).flatMap e63) (l1 rfl) ht (.cons (q.t 0 rfl) (by first | exact ⟨rfl,rfl⟩ | rfl) (.nil)) Tryz.underlying22 zero79 el79 (by decide) (by decide) rfl (still_all encR63_still _)) rfl encR63_len)<| .turn rfl rfl rfl rfl rfl (.new (fun E hE => .app (enc := e63) (l1 rfl) (nm rfl) (hE.t 0 rfl) (Src.rd (hE.t 1 rfl) (flatMap_length encR63_len _) (one_all encR63_one _) (.inl rfl)) Tryz.underlying22 ⟨_,Tryz.underlying22,by intro k hk; cases hk⟩ el79 rfl encR63_len rfl rfl (by decide) hl1_418) rfl)<| .read rfl (.c (.put (fun E hE => .assign (l1 rfl) (hE.t 0 rfl))) (.n))<| .nil _) rfl rfl ?_
     refine AWP.vs ⟨[(0,rW β1 a0 e63),(5,iW p_20),(7,iW (0 : Int)),(14,.own 1 3 0 l1_418.length),(15,.own 2 1 0 x_414.2.2.length),(16,iW x_414.1)],[(1,⟨79,true,l1_418.flatMap e63⟩),(2,⟨3,true,x_414.2.2.flatMap eW⟩)]⟩ rfl rfl ?_
     obtain ⟨y_419,hy_419,h⟩ := bindS h
     obtain ⟨l2_420,hl2_420,h⟩ := bindS h
     refine AWP.rg (.cons (.move (l1 rfl) (.t rfl))<| .cons (.move (l1 rfl) (.t rfl))<| .cons (.move (l1 rfl) (.t rfl))<| .cons (.indexRd (enc := e63) (l1 rfl) (.t rfl) (.t rfl) Tryz.underlying22 sz79 encR63_len rfl hy_419)<| .cons (.fieldR (l1 rfl) (.t rfl) fld79_2 rfl)<| .cons (.loadR (v := iW y_419.Due) (l1 rfl) (.t rfl) one3 rfl)<| .cons (.buildSlice (t := 4) (out := ([y_419.Due] : List Int).flatMap eW) (l1 rfl) (nm rfl) (.cons (.t rfl) (by first | exact ⟨rfl,rfl⟩ | rfl) (.nil)) Tryz.underlying23 zero3 el3 (by decide) (by decide) rfl (still_all (encI_still .i64) _))<| .cons (.app (enc := eW) (l1 rfl) (nm rfl) (.t rfl) (Src.own (.t rfl) rfl (lendAll (encI_len .i64) _) (flatMap_length (encI_len .i64) _) (one_all (encI_one .i64) _) (.inl rfl)) Tryz.underlying23 ⟨_,Tryz.underlying23,by intro k hk; cases hk⟩ el3 rfl (encI_len .i64) rfl rfl (by decide) hl2_420)<| .cons (.assign (l1 rfl) (.t rfl))<| .nil _ _ _) ?_
     refine AWP.vs ⟨[(0,rW β1 a0 e63),(5,iW p_20),(7,iW (0 : Int)),(14,.own 1 3 0 l1_418.length),(15,.own 2 1 0 l2_420.length),(16,iW x_414.1)],[(2,⟨3,true,l2_420.flatMap eW⟩),(1,⟨79,true,l1_418.flatMap e63⟩)]⟩ rfl rfl ?_
     obtain ⟨t16_421,ht16_421,h⟩ := letS h
     refine AWP.rg (.cons (.move (l1 rfl) (.t rfl))<| .cons (.add (l1 rfl) (.t rfl) (.const _ _ _))<| .cons (.assign (l1 rfl) (.t rfl))<| .nil _ _ _) ?_
     exact endJ (t16_421,l1_418,l2_420) h (by subst ht16_421; exact VC.sub (.of rfl) (.of rfl))
    ·have h := iteF hc h
     refine AWP.exit ?_
     exact endJ (x_414.2.1,x_414.2.2) h (VC.sub (.of rfl) (.of rfl))
 ·refine AWP.vs ⟨[(0,rW β1 a0 e63),(1,bW a1),(5,iW (0 : Int)),(6,iW (0 : Int))],[]⟩ rfl rfl ?_
  refine AWP.loopM (S := fun x_13 : Int × Int => ⟨[(0,rW β1 a0 e63),(1,bW a1),(5,iW x_13.1),(6,iW x_13.2)],[]⟩) (x := ((0 : Int),(0 : Int))) (fun nx_14 x_13 h => ?_) h
  unfold m76_L1 at h
  refine AWP.seq ?_
  refine AWP.seq ?_
  refine AWP.rg (.cons (.move (l1 rfl) (.t rfl))<| .cons (.move (l1 rfl) (.t rfl))<| .cons (.lenRd (l1 rfl) (.t rfl) Tryz.underlying22)<| .cons (.lss (l1 rfl) (.t rfl) (.t rfl))<| .nil _ _ _) ?_
  refine AWP.vs ⟨[(0,rW β1 a0 e63),(1,bW a1),(5,iW x_13.1),(6,iW x_13.2),(23,bW (decide (x_13.2 < (a0.length : Int))))],[]⟩ rfl rfl ?_
  refine AWP.cond (.t rfl) (fun hc => ?_) (fun hc => ?_)
  ·have h := iteT hc h
   refine AWP.skip ?_
   refine AWP.seq ?_
   refine AWP.block ?_
   refine AWP.seq ?_
   obtain ⟨y_15,hy_15,h⟩ := bindS h
   refine AWP.rg (.cons (.move (l1 rfl) (.t rfl))<| .cons (.eql (l1 rfl) (.t rfl) (.const _ _ _))<| .cons (.move (l1 rfl) (.t rfl))<| .guard (j := 2) (dj := 28) rfl (l1 rfl) rfl (l1 rfl) (fun hg => .move (l1 rfl) (.t rfl))<| .guard (j := 2) (dj := 28) rfl (l1 rfl) rfl (l1 rfl) (fun hg => .move (l1 rfl) (.t rfl))<| .guard (j := 2) (dj := 28) rfl (l1 rfl) rfl (l1 rfl) (fun hg => .indexRd (enc := e63) (l1 rfl) (.gd hg (.t rfl)) (.gd hg (.t rfl)) Tryz.underlying22 sz79 encR63_len rfl (gdB hy_15 hg))<| .guard (j := 2) (dj := 28) rfl (l1 rfl) rfl (l1 rfl) (fun hg => .fieldR (l1 rfl) (.gd hg (.t rfl)) fld79_0 rfl)<| .guard (j := 2) (dj := 28) rfl (l1 rfl) rfl (l1 rfl) (fun hg => .loadR (v := iW y_15.Rl) (l1 rfl) (.gd hg (.t rfl)) one3 rfl)<| .guard (j := 2) (dj := 28) rfl (l1 rfl) rfl (l1 rfl) (fun hg => .move (l1 rfl) (.t rfl))<| .guard (j := 2) (dj := 28) rfl (l1 rfl) rfl (l1 rfl) (fun hg => .lss (l1 rfl) (.gd hg (.t rfl)) (.gd hg (.t rfl)))<| .cons (.pickOr (l1 rfl) (.t rfl) (.const _ _ _) (.t rfl))<| .nil _ _ _) ?_
   refine AWP.vs ⟨[(0,rW β1 a0 e63),(1,bW a1),(5,iW x_13.1),(6,iW x_13.2),(36,bW ((decide (x_13.2 = (0 : Int))) || (decide (y_15.Rl < x_13.1))))],[]⟩ rfl rfl ?_
   refine AWP.join' (S := fun p_17 : Int => ⟨[(0,rW β1 a0 e63),(1,bW a1),(5,iW p_17),(6,iW x_13.2)],[]⟩) h (fun p_17 h => ?_) (fun k_18 h => ?_)
   ·obtain ⟨t6_19,ht6_19,h⟩ := letS h
    refine AWP.rg (.cons (.move (l1 rfl) (.t rfl))<| .cons (.add (l1 rfl) (.t rfl) (.const _ _ _))<| .cons (.assign (l1 rfl) (.t rfl))<| .nil _ _ _) ?_
    exact endJ (p_17,t6_19) h (by subst ht6_19; exact VC.sub (.of rfl) (.n _))
   ·refine AWP.cond (.t rfl) (fun hc => ?_) (fun hc => ?_)
    ·have h := iteT hc h
     obtain ⟨y_16,hy_16,h⟩ := bindS h
     refine AWP.rg (.cons (.move (l1 rfl) (.t rfl))<| .cons (.move (l1 rfl) (.t rfl))<| .cons (.indexRd (enc := e63) (l1 rfl) (.t rfl) (.t rfl) Tryz.underlying22 sz79 encR63_len rfl hy_16)<| .cons (.fieldR (l1 rfl) (.t rfl) fld79_0 rfl)<| .cons (.loadR (v := iW y_16.Rl) (l1 rfl) (.t rfl) one3 rfl)<| .cons (.assign (l1 rfl) (.t rfl))<| .nil _ _ _) ?_
     exact endJ y_16.Rl h (VC.sub (.of rfl) (.n _))
    ·have h := iteF hc h
     refine AWP.skip ?_
     exact endJ x_13.1 h (VC.sub (.of rfl) (.n _))
  ·have h := iteF hc h
   refine AWP.exit ?_
   exact endJ x_13.1 h (VC.sub (.of rfl) (.n _))
theorem c38 {β1 : Bool} {β2 : Bool} (n : Nat) (a0 : (List R63)) (a1 : (List Int)) {r : (Int × Int)} (h : m38 n a0 a1 = some r) : Spec Tryz.prog 38 [] [rW β1 a0 e63,rW β2 a1 eW] [] (.tup [iW r.1,iW r.2]) [] := by
 refine Spec.of (fn := Tryz.f38) Tryz.func38 Tryz.ntmps38 rfl rfl (le1 rfl) (fun w0 Zs Zb T0 ι0 => ?_)
 unfold m38 at h
 refine AWP.seq ?_
 refine AWP.rg (.cons (.assign (l1 rfl) (.const _ _ _))<| .cons (.assign (l1 rfl) (.const _ _ _))<| .nil _ _ _) ?_
 refine AWP.vs ⟨[(0,rW β1 a0 e63),(1,rW β2 a1 eW)],[]⟩ rfl rfl ?_
 refine AWP.seq ?_
 obtain ⟨y_1,hy_1,h⟩ := bindS h
 refine AWP.rg (.cons (.move (l1 rfl) (.t rfl))<| .cons (.move (l1 rfl) (.t rfl))<| .cons (.call0 (bw := false) (l1 rfl) (c59 (β1 := β1) (β2 := β2) n a0 a1 hy_1) (.cons (.t rfl) (.ren rfl) (.cons (.t rfl) (.ren rfl) (.nil))) rfl)<| .cons (.move (l1 rfl) (.t rfl))<| .cons (.extract (l1 rfl) (.t rfl) rfl)<| .cons (.extract (l1 rfl) (.t rfl) rfl)<| .cons (.assign (l1 rfl) (.t rfl))<| .cons (.assign (l1 rfl) (.t rfl))<| .nil _ _ _) ?_
 refine AWP.vs ⟨[(0,rW β1 a0 e63),(1,rW β2 a1 eW),(6,rW false y_1.1 eW),(7,iW y_1.2)],[]⟩ rfl rfl ?_
 refine AWP.seq ?_
 refine AWP.rg (.cons (.assign (l1 rfl) (.const _ _ _))<| .nil _ _ _) ?_
 refine AWP.vs ⟨[(0,rW β1 a0 e63),(1,rW β2 a1 eW),(6,rW false y_1.1 eW),(7,iW y_1.2),(8,iW (0 : Int))],[]⟩ rfl rfl ?_
 refine AWP.seq ?_
 refine AWP.seq ?_
 refine AWP.rg (.cons (.assign (l1 rfl) (.const _ _ _))<| .nil _ _ _) ?_
 refine AWP.vs ⟨[(0,rW β1 a0 e63),(1,rW β2 a1 eW),(6,rW false y_1.1 eW),(7,iW y_1.2),(8,iW (0 : Int)),(9,iW (0 : Int))],[]⟩ rfl rfl ?_
 refine AWP.joinB' (S := fun p_27 : Int => ⟨[(7,iW y_1.2),(8,iW p_27)],[]⟩) h (fun p_27 h => ?_) (fun k_28 h => ?_)
 ·refine AWP.seq ?_
  refine AWP.rg (.cons (.move (l1 rfl) (.t rfl))<| .cons (.move (l1 rfl) (.t rfl))<| .cons (.assign (l1 rfl) (.t rfl))<| .cons (.assign (l1 rfl) (.t rfl))<| .nil _ _ _) ?_
  refine AWP.ret ?_
  obtain rfl := Option.some.inj h
  refine retJ (Res.vc (s' := ⟨[(4,iW p_27),(5,iW y_1.2)],[]⟩) (VC.sub (.of rfl) (.n _)) ?_)
  refine Res.drop (H := []) rfl ?_
  exact Res.of rfl (.cons (.tmp rfl) (.cons (.tmp rfl) (.nil))) rfl rfl
 ·refine AWP.vs ⟨[(0,rW β1 a0 e63),(1,rW β2 a1 eW),(6,rW false y_1.1 eW),(7,iW y_1.2),(8,iW (0 : Int)),(9,iW (0 : Int))],[]⟩ rfl rfl ?_
  refine AWP.loopM (S := fun x_18 : Int × Int => ⟨[(0,rW β1 a0 e63),(1,rW β2 a1 eW),(6,rW false y_1.1 eW),(7,iW y_1.2),(8,iW x_18.1),(9,iW x_18.2)],[]⟩) (x := ((0 : Int),(0 : Int))) (fun nx_19 x_18 h => ?_) h
  unfold m38_L1 at h
  refine AWP.seq ?_
  refine AWP.seq ?_
  refine AWP.rg (.cons (.move (l1 rfl) (.t rfl))<| .cons (.move (l1 rfl) (.t rfl))<| .cons (.lenRd (l1 rfl) (.t rfl) Tryz.underlying23)<| .cons (.lss (l1 rfl) (.t rfl) (.t rfl))<| .nil _ _ _) ?_
  refine AWP.vs ⟨[(0,rW β1 a0 e63),(1,rW β2 a1 eW),(6,rW false y_1.1 eW),(7,iW y_1.2),(8,iW x_18.1),(9,iW x_18.2),(20,bW (decide (x_18.2 < (y_1.1.length : Int))))],[]⟩ rfl rfl ?_
  refine AWP.cond (.t rfl) (fun hc => ?_) (fun hc => ?_)
  ·have h := iteT hc h
   refine AWP.skip ?_
   refine AWP.seq ?_
   refine AWP.block ?_
   refine AWP.seq ?_
   obtain ⟨y_20,hy_20,h⟩ := bindS h
   obtain ⟨y_21,hy_21,h⟩ := bindS h
   obtain ⟨y_22,hy_22,h⟩ := bindS h
   obtain ⟨t10_23,ht10_23,h⟩ := letS h
   refine AWP.dw mixed [(0,rW β1 a0 e63),(1,rW β2 a1 eW),(6,rW false y_1.1 eW),(7,iW y_1.2),(8,iW x_18.1),(9,iW x_18.2),(20,bW (decide (x_18.2 < (y_1.1.length : Int))))] [] [dO [2] 23 (rW false y_1.1 eW),dO [5] 24 (iW x_18.2),dO [7,8] 25 (.rptr false [iW y_20]),dO [9] 26 (iW y_20),dO [0] 27 (rW β1 a0 e63),dO [1] 28 (rW β2 a1 eW),dO [5] 29 (iW x_18.2),dO [12,13] 30 (.rptr β2 [iW y_21]),dO [14] 31 (iW y_21),dO [11,15] 32 (.rptr β1 [iW y_22.Rl,iW y_22.Ln,iW y_22.Due]),dO [16] 33 (.rptr β1 [iW y_22.Due]),dO [17] 34 (iW y_22.Due),dO [10,18] 35 (iW (IntKind.wrap .i64 (y_20 - y_22.Due))),dO [19] 10 (iW (IntKind.wrap .i64 (y_20 - y_22.Due)))] [] [[]] [[],[],[0,2],[0,3],[],[],[],[5,7],[5,8],[4,9],[4,10],[4,11],[0,12],[0,13]] [0,1,2,3,4,5,20] rfl rfl (by kernel_rfl) rfl (.p rfl (fun _ q _ => .move (l1 rfl) (q.t 0 rfl))<| .p rfl (fun _ q _ => .move (l1 rfl) (q.t 0 rfl))<| .p rfl (fun _ q _ => .indexRd (enc := eW) (l1 rfl) (q.t 0 rfl) (q.t 1 rfl) Tryz.underlying23 sz3 (encI_len .i64) rfl hy_20)<| .p rfl (fun _ q _ => .loadR (v := iW y_20) (l1 rfl) (q.t 0 rfl) one3 rfl)<| .p rfl (fun _ q _ => .move (l1 rfl) (q.t 0 rfl))<| .p rfl (fun _ q _ => .move (l1 rfl) (q.t 0 rfl))<| .p rfl (fun _ q _ => .move (l1 rfl) (q.t 0 rfl))<| .p rfl (fun _ q _ => .indexRd (enc := eW) (l1 rfl) (q.t 0 rfl) (q.t 1 rfl) Tryz.underlying23 sz3 (encI_len .i64) rfl hy_21)<| .p rfl (fun _ q _ => .loadR (v := iW y_21) (l1 rfl) (q.t 0 rfl) one3 rfl)<| .p rfl (fun _ q _ => .indexRd (enc := e63) (l1 rfl) (q.t 0 rfl) (q.t 1 rfl) Tryz.underlying22 sz79 encR63_len rfl hy_22)<| .p rfl (fun _ q _ => .fieldR (l1 rfl) (q.t 0 rfl) fld79_2 rfl)<| .p rfl (fun _ q _ => .loadR (v := iW y_22.Due) (l1 rfl) (q.t 0 rfl) one3 rfl)<| .p rfl (fun _ q _ => .sub (l1 rfl) (q.t 0 rfl) (q.t 1 rfl))<| .p rfl (fun _ q _ => .assign (l1 rfl) (q.t 0 rfl))<| .nil _) rfl rfl ?_
   refine AWP.vc (s' := ⟨[(0,rW β1 a0 e63),(1,rW β2 a1 eW),(6,rW false y_1.1 eW),(7,iW y_1.2),(8,iW x_18.1),(9,iW x_18.2),(10,iW t10_23)],[]⟩) (by subst ht10_23; exact VC.sub (.of rfl) (.n _)) ?_
   refine AWP.seq ?_
   refine AWP.rg (.cons (.move (l1 rfl) (.t rfl))<| .cons (.eql (l1 rfl) (.t rfl) (.const _ _ _))<| .cons (.move (l1 rfl) (.t rfl))<| .guard (j := 2) (dj := 38) rfl (l1 rfl) rfl (l1 rfl) (fun hg => .move (l1 rfl) (.t rfl))<| .guard (j := 2) (dj := 38) rfl (l1 rfl) rfl (l1 rfl) (fun hg => .move (l1 rfl) (.t rfl))<| .guard (j := 2) (dj := 38) rfl (l1 rfl) rfl (l1 rfl) (fun hg => .gtr (l1 rfl) (.gd hg (.t rfl)) (.gd hg (.t rfl)))<| .cons (.pickOr (l1 rfl) (.t rfl) (.const _ _ _) (.t rfl))<| .nil _ _ _) ?_
   refine AWP.vs ⟨[(0,rW β1 a0 e63),(1,rW β2 a1 eW),(6,rW false y_1.1 eW),(7,iW y_1.2),(8,iW x_18.1),(9,iW x_18.2),(10,iW t10_23),(42,bW ((decide (x_18.2 = (0 : Int))) || (decide (x_18.1 < t10_23))))],[]⟩ rfl rfl ?_
   refine AWP.join' (S := fun p_24 : Int => ⟨[(0,rW β1 a0 e63),(1,rW β2 a1 eW),(6,rW false y_1.1 eW),(7,iW y_1.2),(8,iW p_24),(9,iW x_18.2)],[]⟩) h (fun p_24 h => ?_) (fun k_25 h => ?_)
   ·obtain ⟨t9_26,ht9_26,h⟩ := letS h
    refine AWP.rg (.cons (.move (l1 rfl) (.t rfl))<| .cons (.add (l1 rfl) (.t rfl) (.const _ _ _))<| .cons (.assign (l1 rfl) (.t rfl))<| .nil _ _ _) ?_
    exact endJ (p_24,t9_26) h (by subst ht9_26; exact VC.sub (.of rfl) (.n _))
   ·refine AWP.cond (.t rfl) (fun hc => ?_) (fun hc => ?_)
    ·have h := iteT hc h
     refine AWP.rg (.cons (.move (l1 rfl) (.t rfl))<| .cons (.assign (l1 rfl) (.t rfl))<| .nil _ _ _) ?_
     exact endJ t10_23 h (VC.sub (.of rfl) (.n _))
    ·have h := iteF hc h
     refine AWP.skip ?_
     exact endJ x_18.1 h (VC.sub (.of rfl) (.n _))
  ·have h := iteF hc h
   refine AWP.exit ?_
   exact endJ x_18.1 h (VC.sub (.of rfl) (.n _))
theorem c70 {β1 : Bool} {β2 : Bool} (n : Nat) (a0 : R24) {r : Int} (h : m70 n a0 = some r) : Spec Tryz.prog 70 [] [.agg (gW β1 β2 a0.Jb a0.Dn a0.Mt a0.Bo)] [] (iW r) [] := by
 refine Spec.of (fn := Tryz.f70) Tryz.func70 Tryz.ntmps70 rfl rfl (le1 rfl) (fun w0 Zs Zb T0 ι0 => ?_)
 unfold m70 at h
 refine AWP.seq ?_
 refine AWP.rg (.cons (.box (t := 1) (n := 4) (l1 rfl) (nm rfl) (.t rfl) (by first | exact ⟨rfl,rfl⟩ | rfl) rfl)<| .cons (.assign (l1 rfl) (.const _ _ _))<| .nil _ _ _) ?_
 refine AWP.vs ⟨[(1,.ptr 1 0)],[(1,⟨25,false,(gW β1 β2 a0.Jb a0.Dn a0.Mt a0.Bo)⟩)]⟩ rfl rfl ?_
 refine AWP.seq ?_
 obtain ⟨y_1,hy_1,h⟩ := bindS h
 refine AWP.rg (.cons (.fieldP (l1 rfl) (.t rfl) fld25_0)<| .cons (.loadP (l1 rfl) (.t rfl) one22 rfl rfl rfl)<| .cons (.fieldP (l1 rfl) (.t rfl) fld25_1)<| .cons (.loadP (l1 rfl) (.t rfl) one23 rfl rfl rfl)<| .cons (.call0 (bw := false) (l1 rfl) (c59 (β1 := β1) (β2 := β2) n a0.Jb a0.Dn hy_1) (.cons (.t rfl) (.ren rfl) (.cons (.t rfl) (.ren rfl) (.nil))) rfl)<| .cons (.move (l1 rfl) (.t rfl))<| .cons (.extract (l1 rfl) (.t rfl) rfl)<| .cons (.extract (l1 rfl) (.t rfl) rfl)<| .cons (.assign (l1 rfl) (.t rfl))<| .cons (.assign (l1 rfl) (.t rfl))<| .nil _ _ _) ?_
 refine AWP.vs ⟨[(1,.ptr 1 0),(3,rW false y_1.1 eW)],[(1,⟨25,false,(gW β1 β2 a0.Jb a0.Dn a0.Mt a0.Bo)⟩)]⟩ rfl rfl ?_
 refine AWP.seq ?_
 refine AWP.rg (.cons (.assign (l1 rfl) (.const _ _ _))<| .nil _ _ _) ?_
 refine AWP.vs ⟨[(1,.ptr 1 0),(3,rW false y_1.1 eW),(5,iW (0 : Int))],[(1,⟨25,false,(gW β1 β2 a0.Jb a0.Dn a0.Mt a0.Bo)⟩)]⟩ rfl rfl ?_
 refine AWP.seq ?_
 refine AWP.seq ?_
 refine AWP.rg (.cons (.move (l1 rfl) (.t rfl))<| .cons (.lenRd (l1 rfl) (.t rfl) Tryz.underlying23)<| .cons (.gtr (l1 rfl) (.t rfl) (.const _ _ _))<| .nil _ _ _) ?_
 refine AWP.vs ⟨[(1,.ptr 1 0),(3,rW false y_1.1 eW),(5,iW (0 : Int)),(23,bW (decide ((0 : Int) < (y_1.1.length : Int))))],[(1,⟨25,false,(gW β1 β2 a0.Jb a0.Dn a0.Mt a0.Bo)⟩)]⟩ rfl rfl ?_
 refine AWP.join' (S := fun p_3 : Int => ⟨[(1,.ptr 1 0),(5,iW p_3)],[(1,⟨25,false,(gW β1 β2 a0.Jb a0.Dn a0.Mt a0.Bo)⟩)]⟩) h (fun p_3 h => ?_) (fun k_4 h => ?_)
 ·refine AWP.seq ?_
  refine AWP.rg (.cons (.assign (l1 rfl) (.const _ _ _))<| .nil _ _ _) ?_
  refine AWP.vs ⟨[(1,.ptr 1 0),(5,iW p_3),(6,.sc (.slice none 0 0))],[(1,⟨25,false,(gW β1 β2 a0.Jb a0.Dn a0.Mt a0.Bo)⟩)]⟩ rfl rfl ?_
  refine AWP.seq ?_
  refine AWP.seq ?_
  refine AWP.rg (.cons (.assign (l1 rfl) (.const _ _ _))<| .nil _ _ _) ?_
  refine AWP.vs ⟨[(1,.ptr 1 0),(5,iW p_3),(6,.sc (.slice none 0 0)),(7,iW (0 : Int))],[(1,⟨25,false,(gW β1 β2 a0.Jb a0.Dn a0.Mt a0.Bo)⟩)]⟩ rfl rfl ?_
  refine AWP.joinB' (S := fun p_27 : (List R63) => ⟨[(1,.ptr 1 0),(6,.own 2 3 0 p_27.length)],[(1,⟨25,false,(gW β1 β2 a0.Jb a0.Dn a0.Mt a0.Bo)⟩),(2,⟨79,true,p_27.flatMap e63⟩)]⟩) h (fun p_27 h => ?_) (fun k_28 h => ?_)
  ·refine AWP.seq ?_
   refine AWP.seq ?_
   refine AWP.rg (.cons (.fieldP (l1 rfl) (.t rfl) fld25_2)<| .cons (.loadP (l1 rfl) (.t rfl) one4 rfl rfl rfl)<| .cons (.not (l1 rfl) (.t rfl))<| .nil _ _ _) ?_
   refine AWP.vs ⟨[(1,.ptr 1 0),(6,.own 2 3 0 p_27.length),(61,bW (!a0.Mt))],[(1,⟨25,false,(gW β1 β2 a0.Jb a0.Dn a0.Mt a0.Bo)⟩),(2,⟨79,true,p_27.flatMap e63⟩)]⟩ rfl rfl ?_
   refine AWP.cond (.t rfl) (fun hc => ?_) (fun hc => ?_)
   ·have h := iteT hc h
    refine AWP.seq ?_
    obtain ⟨y_29,hy_29,h⟩ := bindS h
    refine AWP.rg (.cons (.fieldP (l1 rfl) (.t rfl) fld25_0)<| .cons (.loadP (l1 rfl) (.t rfl) one22 rfl rfl rfl)<| .cons (.fieldP (l1 rfl) (.t rfl) fld25_1)<| .cons (.loadP (l1 rfl) (.t rfl) one23 rfl rfl rfl)<| .cons (.call0 (bw := false) (l1 rfl) (c37 (β1 := β1) (β2 := β2) n a0.Jb a0.Dn hy_29) (.cons (.t rfl) (.ren rfl) (.cons (.t rfl) (.ren rfl) (.nil))) rfl)<| .cons (.move (l1 rfl) (.t rfl))<| .cons (.extract (l1 rfl) (.t rfl) rfl)<| .cons (.extract (l1 rfl) (.t rfl) rfl)<| .cons (.assign (l1 rfl) (.t rfl))<| .cons (.assign (l1 rfl) (.t rfl))<| .nil _ _ _) ?_
    refine AWP.vs ⟨[(6,.own 2 3 0 p_27.length),(9,iW y_29.1)],[(2,⟨79,true,p_27.flatMap e63⟩)]⟩ rfl rfl ?_
    refine AWP.seq ?_
    obtain ⟨y_30,hy_30,h⟩ := bindS h
    obtain ⟨t2_31,ht2_31,h⟩ := letS h
    refine AWP.rg (.cons (.move (l1 rfl) (.t rfl))<| .cons (.move (l1 rfl) (.t rfl))<| .cons (.call0 (bw := true) (l1 rfl) (c76 (β1 := true) n p_27 false hy_30) (.cons (.t rfl) (.lendRow rfl rfl encR63_len rfl) (.cons (.const _ _ _) (.ren rfl) (.nil))) rfl)<| .cons (.add (l1 rfl) (.t rfl) (.t rfl))<| .cons (.assign (l1 rfl) (.t rfl))<| .nil _ _ _) ?_
    refine AWP.ret ?_
    obtain rfl := Option.some.inj h
    refine retJ (Res.vc (s' := ⟨[(2,iW t2_31)],[]⟩) (by subst ht2_31; exact VC.sub (.of rfl) (.n _)) ?_)
    refine Res.drop (H := []) rfl ?_
    exact Res.of rfl (.cons (.tmp rfl) (.nil)) rfl rfl
   ·have h := iteF hc h
    refine AWP.skip ?_
    refine AWP.seq ?_
    obtain ⟨y_32,hy_32,h⟩ := bindS h
    refine AWP.rg (.cons (.fieldP (l1 rfl) (.t rfl) fld25_0)<| .cons (.loadP (l1 rfl) (.t rfl) one22 rfl rfl rfl)<| .cons (.fieldP (l1 rfl) (.t rfl) fld25_1)<| .cons (.loadP (l1 rfl) (.t rfl) one23 rfl rfl rfl)<| .cons (.call0 (bw := false) (l1 rfl) (c38 (β1 := β1) (β2 := β2) n a0.Jb a0.Dn hy_32) (.cons (.t rfl) (.ren rfl) (.cons (.t rfl) (.ren rfl) (.nil))) rfl)<| .cons (.move (l1 rfl) (.t rfl))<| .cons (.extract (l1 rfl) (.t rfl) rfl)<| .cons (.extract (l1 rfl) (.t rfl) rfl)<| .cons (.assign (l1 rfl) (.t rfl))<| .cons (.assign (l1 rfl) (.t rfl))<| .nil _ _ _) ?_
    refine AWP.vs ⟨[(1,.ptr 1 0),(6,.own 2 3 0 p_27.length),(11,iW y_32.1)],[(1,⟨25,false,(gW β1 β2 a0.Jb a0.Dn a0.Mt a0.Bo)⟩),(2,⟨79,true,p_27.flatMap e63⟩)]⟩ rfl rfl ?_
    refine AWP.seq ?_
    refine AWP.block ?_
    refine AWP.seq ?_
    refine AWP.rg (.cons (.move (l1 rfl) (.t rfl))<| .cons (.lenOwn (l1 rfl) (.t rfl) Tryz.underlying22)<| .cons (.eql (l1 rfl) (.t rfl) (.const _ _ _))<| .cons (.assign (l1 rfl) (.t rfl))<| .nil _ _ _) ?_
    refine AWP.vs ⟨[(1,.ptr 1 0),(6,.own 2 3 0 p_27.length),(11,iW y_32.1),(82,bW (decide ((p_27.length : Int) = (0 : Int))))],[(1,⟨25,false,(gW β1 β2 a0.Jb a0.Dn a0.Mt a0.Bo)⟩),(2,⟨79,true,p_27.flatMap e63⟩)]⟩ rfl rfl ?_
    refine AWP.cond (.t rfl) (fun hc => ?_) (fun hc => ?_)
    ·have h := iteT hc h
     refine AWP.seq ?_
     refine AWP.rg (.cons (.move (l1 rfl) (.t rfl))<| .cons (.assign (l1 rfl) (.t rfl))<| .nil _ _ _) ?_
     refine AWP.ret ?_
     obtain rfl := Option.some.inj h
     refine retJ (Res.vc (s' := ⟨[(2,iW y_32.1)],[]⟩) (VC.sub (.of rfl) (.n _)) ?_)
     refine Res.drop (H := []) rfl ?_
     exact Res.of rfl (.cons (.tmp rfl) (.nil)) rfl rfl
    ·have h := iteF hc h
     refine AWP.seq ?_
     refine AWP.rg (.cons (.fieldP (l1 rfl) (.t rfl) fld25_1)<| .cons (.loadP (l1 rfl) (.t rfl) one23 rfl rfl rfl)<| .cons (.lenRd (l1 rfl) (.t rfl) Tryz.underlying23)<| .cons (.eql (l1 rfl) (.t rfl) (.const _ _ _))<| .cons (.assign (l1 rfl) (.t rfl))<| .nil _ _ _) ?_
     refine AWP.vs ⟨[(6,.own 2 3 0 p_27.length),(11,iW y_32.1),(87,bW (decide ((a0.Dn.length : Int) = (0 : Int))))],[(2,⟨79,true,p_27.flatMap e63⟩)]⟩ rfl rfl ?_
     refine AWP.cond (.t rfl) (fun hc => ?_) (fun hc => ?_)
     ·have h := iteT hc h
      refine AWP.seq ?_
      obtain ⟨y_33,hy_33,h⟩ := bindS h
      refine AWP.rg (.cons (.move (l1 rfl) (.t rfl))<| .cons (.call0 (bw := true) (l1 rfl) (c76 (β1 := true) n p_27 true hy_33) (.cons (.t rfl) (.lendRow rfl rfl encR63_len rfl) (.cons (.const _ _ _) (.ren rfl) (.nil))) rfl)<| .cons (.assign (l1 rfl) (.t rfl))<| .nil _ _ _) ?_
      refine AWP.ret ?_
      obtain rfl := Option.some.inj h
      refine retJ (Res.vc (s' := ⟨[(2,iW y_33)],[]⟩) (VC.sub (.of rfl) (.n _)) ?_)
      refine Res.drop (H := []) rfl ?_
      exact Res.of rfl (.cons (.tmp rfl) (.nil)) rfl rfl
     ·have h := iteF hc h
      refine AWP.skip ?_
      refine AWP.seq ?_
      obtain ⟨y_34,hy_34,h⟩ := bindS h
      obtain ⟨t2_35,ht2_35,h⟩ := letS h
      refine AWP.rg (.cons (.move (l1 rfl) (.t rfl))<| .cons (.move (l1 rfl) (.t rfl))<| .cons (.call0 (bw := true) (l1 rfl) (c76 (β1 := true) n p_27 true hy_34) (.cons (.t rfl) (.lendRow rfl rfl encR63_len rfl) (.cons (.const _ _ _) (.ren rfl) (.nil))) rfl)<| .cons (.max2 (l1 rfl) (.t rfl) (.t rfl))<| .cons (.assign (l1 rfl) (.t rfl))<| .nil _ _ _) ?_
      refine AWP.ret ?_
      obtain rfl := Option.some.inj h
      refine retJ (Res.vc (s' := ⟨[(2,iW t2_35)],[]⟩) (by subst ht2_35; exact VC.sub (.of rfl) (.n _)) ?_)
      refine Res.drop (H := []) rfl ?_
      exact Res.of rfl (.cons (.tmp rfl) (.nil)) rfl rfl
  ·refine AWP.vc (VC.nilOwn (d := 6) (t := 2) (sz := 3) (E := 79) rfl (nm rfl)) ?_
   refine AWP.vs ⟨[(1,.ptr 1 0),(5,iW p_3),(6,.own 2 3 0 ([] : List R63).length),(7,iW (0 : Int))],[(1,⟨25,false,(gW β1 β2 a0.Jb a0.Dn a0.Mt a0.Bo)⟩),(2,⟨79,true,([] : List R63).flatMap e63⟩)]⟩ rfl rfl ?_
   refine AWP.loopM (S := fun x_19 : Int × (List R63) => ⟨[(1,.ptr 1 0),(5,iW p_3),(6,.own 2 3 0 x_19.2.length),(7,iW x_19.1)],[(1,⟨25,false,(gW β1 β2 a0.Jb a0.Dn a0.Mt a0.Bo)⟩),(2,⟨79,true,x_19.2.flatMap e63⟩)]⟩) (x := ((0 : Int),([] : List R63))) (fun nx_20 x_19 h => ?_) h
   unfold m70_L1 at h
   refine AWP.seq ?_
   refine AWP.seq ?_
   refine AWP.rg (.cons (.move (l1 rfl) (.t rfl))<| .cons (.fieldP (l1 rfl) (.t rfl) fld25_0)<| .cons (.loadP (l1 rfl) (.t rfl) one22 rfl rfl rfl)<| .cons (.lenRd (l1 rfl) (.t rfl) Tryz.underlying22)<| .cons (.lss (l1 rfl) (.t rfl) (.t rfl))<| .nil _ _ _) ?_
   refine AWP.vs ⟨[(1,.ptr 1 0),(5,iW p_3),(6,.own 2 3 0 x_19.2.length),(7,iW x_19.1),(34,bW (decide (x_19.1 < (a0.Jb.length : Int))))],[(1,⟨25,false,(gW β1 β2 a0.Jb a0.Dn a0.Mt a0.Bo)⟩),(2,⟨79,true,x_19.2.flatMap e63⟩)]⟩ rfl rfl ?_
   refine AWP.cond (.t rfl) (fun hc => ?_) (fun hc => ?_)
   ·have h := iteT hc h
    refine AWP.skip ?_
    refine AWP.seq ?_
    refine AWP.block ?_
    refine AWP.seq ?_
    obtain ⟨y_21,hy_21,h⟩ := bindS h
    refine AWP.rg (.cons (.fieldP (l1 rfl) (.t rfl) fld25_0)<| .cons (.loadP (l1 rfl) (.t rfl) one22 rfl rfl rfl)<| .cons (.move (l1 rfl) (.t rfl))<| .cons (.indexRd (enc := e63) (l1 rfl) (.t rfl) (.t rfl) Tryz.underlying22 sz79 encR63_len rfl hy_21)<| .cons (.loadRA (out := [iW y_21.Rl,iW y_21.Ln,iW y_21.Due]) (l1 rfl) (.t rfl) agg79 (Nat.le_of_eq (Eq.symm (encR63_len _))) rfl)<| .cons (.alloc (t := 3) (k := ⟨79,false,[iW (0 : Int),iW (0 : Int),iW (0 : Int)]⟩) (l1 rfl) (nm rfl) zero79 rfl rfl)<| .cons (.storePA (.t rfl) (.t rfl) sz79 rfl rfl (le1 rfl) (one_lit rfl) (by intro h; cases h) rfl)<| .nil _ _ _) ?_
    refine AWP.vs ⟨[(1,.ptr 1 0),(5,iW p_3),(6,.own 2 3 0 x_19.2.length),(7,iW x_19.1),(8,.ptr 3 0)],[(3,⟨79,false,[iW y_21.Rl,iW y_21.Ln,iW y_21.Due]⟩),(1,⟨25,false,(gW β1 β2 a0.Jb a0.Dn a0.Mt a0.Bo)⟩),(2,⟨79,true,x_19.2.flatMap e63⟩)]⟩ rfl rfl ?_
    refine AWP.seq ?_
    obtain ⟨y_22,hy_22,h⟩ := bindS h
    refine AWP.rg (.cons (.fieldP (l1 rfl) (.t rfl) fld25_1)<| .cons (.loadP (l1 rfl) (.t rfl) one23 rfl rfl rfl)<| .cons (.move (l1 rfl) (.t rfl))<| .cons (.call0 (bw := false) (l1 rfl) (c58 (β1 := β2) n a0.Dn x_19.1 hy_22) (.cons (.t rfl) (.ren rfl) (.cons (.t rfl) (.ren rfl) (.nil))) rfl)<| .cons (.not (l1 rfl) (.t rfl))<| .nil _ _ _) ?_
    refine AWP.vs ⟨[(1,.ptr 1 0),(5,iW p_3),(6,.own 2 3 0 x_19.2.length),(7,iW x_19.1),(8,.ptr 3 0),(46,bW (!y_22))],[(3,⟨79,false,[iW y_21.Rl,iW y_21.Ln,iW y_21.Due]⟩),(1,⟨25,false,(gW β1 β2 a0.Jb a0.Dn a0.Mt a0.Bo)⟩),(2,⟨79,true,x_19.2.flatMap e63⟩)]⟩ rfl rfl ?_
    refine AWP.join' (S := fun p_24 : (List R63) => ⟨[(1,.ptr 1 0),(5,iW p_3),(6,.own 2 3 0 p_24.length),(7,iW x_19.1)],[(1,⟨25,false,(gW β1 β2 a0.Jb a0.Dn a0.Mt a0.Bo)⟩),(2,⟨79,true,p_24.flatMap e63⟩)]⟩) h (fun p_24 h => ?_) (fun k_25 h => ?_)
    ·obtain ⟨t7_26,ht7_26,h⟩ := letS h
     refine AWP.rg (.cons (.move (l1 rfl) (.t rfl))<| .cons (.add (l1 rfl) (.t rfl) (.const _ _ _))<| .cons (.assign (l1 rfl) (.t rfl))<| .nil _ _ _) ?_
     exact endJ (t7_26,p_24) h (by subst ht7_26; exact VC.sub (.of rfl) (.of rfl))
    ·refine AWP.cond (.t rfl) (fun hc => ?_) (fun hc => ?_)
     ·have h := iteT hc h
      obtain ⟨l2_23,hl2_23,h⟩ := bindS h
      refine AWP.rg (.cons (.move (l1 rfl) (.t rfl))<| .cons (.fieldP (l1 rfl) (.t rfl) fld79_0)<| .cons (.loadP (l1 rfl) (.t rfl) one3 rfl rfl rfl)<| .cons (.move (l1 rfl) (.t rfl))<| .cons (.max2 (l1 rfl) (.t rfl) (.t rfl))<| .cons (.fieldP (l1 rfl) (.t rfl) fld79_1)<| .cons (.loadP (l1 rfl) (.t rfl) one3 rfl rfl rfl)<| .cons (.fieldP (l1 rfl) (.t rfl) fld79_2)<| .cons (.loadP (l1 rfl) (.t rfl) one3 rfl rfl rfl)<| .cons (.buildO (offs := [(0,1),(1,1),(2,1)]) (l1 rfl) (.cons (.t rfl) (by first | exact ⟨rfl,rfl⟩ | rfl) (.cons (.t rfl) (by first | exact ⟨rfl,rfl⟩ | rfl) (.cons (.t rfl) (by first | exact ⟨rfl,rfl⟩ | rfl) (.nil)))) zero79 offs79 rfl)<| .cons (.buildSlice (t := 4) (out := ([(R63.mk (if p_3 > y_21.Rl then p_3 else y_21.Rl) y_21.Ln y_21.Due)] : List R63).flatMap e63) (l1 rfl) (nm rfl) (.cons (.t rfl) (by first | exact ⟨rfl,rfl⟩ | rfl) (.nil)) Tryz.underlying22 zero79 el79 (by decide) (by decide) rfl (still_all encR63_still _))<| .cons (.app (enc := e63) (l1 rfl) (nm rfl) (.t rfl) (Src.own (.t rfl) rfl (lendAll encR63_len _) (flatMap_length encR63_len _) (one_all encR63_one _) (.inl rfl)) Tryz.underlying22 ⟨_,Tryz.underlying22,by intro k hk; cases hk⟩ el79 rfl encR63_len rfl rfl (by decide) hl2_23)<| .cons (.assign (l1 rfl) (.t rfl))<| .nil _ _ _) ?_
      exact endJ l2_23 h (VC.sub (.of rfl) (.of rfl))
     ·have h := iteF hc h
      refine AWP.skip ?_
      exact endJ x_19.2 h (VC.sub (.of rfl) (.of rfl))
   ·have h := iteF hc h
    refine AWP.exit ?_
    exact endJ x_19.2 h (VC.sub (.of rfl) (.of rfl))
 ·refine AWP.cond (.t rfl) (fun hc => ?_) (fun hc => ?_)
  ·have h := iteT hc h
   obtain ⟨y_2,hy_2,h⟩ := bindS h
   refine AWP.rg (.cons (.move (l1 rfl) (.t rfl))<| .cons (.move (l1 rfl) (.t rfl))<| .cons (.lenRd (l1 rfl) (.t rfl) Tryz.underlying23)<| .cons (.sub (l1 rfl) (.t rfl) (.const _ _ _))<| .cons (.indexRd (enc := eW) (l1 rfl) (.t rfl) (.t rfl) Tryz.underlying23 sz3 (encI_len .i64) rfl hy_2)<| .cons (.loadR (v := iW y_2) (l1 rfl) (.t rfl) one3 rfl)<| .cons (.assign (l1 rfl) (.t rfl))<| .nil _ _ _) ?_
   exact endJ y_2 h (VC.sub (.of rfl) (.of rfl))
  ·have h := iteF hc h
   refine AWP.skip ?_
   exact endJ (0 : Int) h (VC.sub (.of rfl) (.of rfl))
theorem c55 {β1 : Bool} {β2 : Bool} {β3 : Bool} (n : Nat) (a0 : R24) (a1 : (List Int)) {r : Bool} (h : m55 n a0 a1 = some r) : Spec Tryz.prog 55 [] [.agg (gW β1 β2 a0.Jb a0.Dn a0.Mt a0.Bo),rW β3 a1 eW] [] (bW r) [] := by
 refine Spec.of (fn := Tryz.f55) Tryz.func55 Tryz.ntmps55 rfl rfl (le1 rfl) (fun w0 Zs Zb T0 ι0 => ?_)
 unfold m55 at h
 refine AWP.seq ?_
 refine AWP.rg (.cons (.box (t := 1) (n := 4) (l1 rfl) (nm rfl) (.t rfl) (by first | exact ⟨rfl,rfl⟩ | rfl) rfl)<| .cons (.assign (l1 rfl) (.const _ _ _))<| .nil _ _ _) ?_
 refine AWP.vs ⟨[(1,rW β3 a1 eW),(2,.ptr 1 0)],[(1,⟨25,false,(gW β1 β2 a0.Jb a0.Dn a0.Mt a0.Bo)⟩)]⟩ rfl rfl ?_
 refine AWP.seq ?_
 obtain ⟨y_1,hy_1,h⟩ := bindS h
 obtain ⟨y_2,hy_2,h⟩ := bindS h
 refine AWP.dw mixed [(1,rW β3 a1 eW),(2,.ptr 1 0)] [] [dO [1] 5 (.agg (gW β1 β2 a0.Jb a0.Dn a0.Mt a0.Bo)),dO [2] 6 (bW y_1),dO [3] 7 (bW y_1),dO [4,0] 8 (.gd y_1 (rW β3 a1 eW)),dO [4,5] 9 (.gd y_1 (iW (a1.length : Int))),dO [4,6] 10 (.gd y_1 (bW (decide ((a1.length : Int) = (0 : Int))))),dO [4,7] 11 (bW (y_1 && (decide ((a1.length : Int) = (0 : Int))))),dO [8] 12 (bW (y_1 && (decide ((a1.length : Int) = (0 : Int))))),dO [9,1] 13 (.gd (y_1 && (decide ((a1.length : Int) = (0 : Int)))) (.ptr 1 (0 + 3))),dO [9,10] 14 (.gd (y_1 && (decide ((a1.length : Int) = (0 : Int)))) (iW a0.Bo)),dO [9,1] 15 (.gd (y_1 && (decide ((a1.length : Int) = (0 : Int)))) (.agg (gW β1 β2 a0.Jb a0.Dn a0.Mt a0.Bo))),dO [9,12] 16 (.gd (y_1 && (decide ((a1.length : Int) = (0 : Int)))) (iW y_2)),dO [9,11,13] 17 (.gd (y_1 && (decide ((a1.length : Int) = (0 : Int)))) (bW (decide (a0.Bo ≤ y_2)))),dO [9,14] 18 (bW ((y_1 && (decide ((a1.length : Int) = (0 : Int)))) && (decide (a0.Bo ≤ y_2)))),dO [15] 4 (bW ((y_1 && (decide ((a1.length : Int) = (0 : Int)))) && (decide (a0.Bo ≤ y_2))))] [] [[(1,⟨25,false,(gW β1 β2 a0.Jb a0.Dn a0.Mt a0.Bo)⟩)]] [[],[0,1],[0,2],[0,3],[0,4],[0,5],[0,6],[0,7],[0,8],[0,9],[0,8],[0,8,10,11],[0,12],[0,13],[0,14]] [16] rfl rfl (by kernel_rfl) rfl (.r rfl rfl (fun _ q => .loadPA (l1 rfl) (q.t 0 rfl) agg25 rfl rfl rfl rfl)<| .p rfl (fun _ q _ => .call0 (bw := false) (l1 rfl) (c31 (β1 := β1) (β2 := β2) n (R24.mk a0.Jb a0.Dn a0.Mt a0.Bo) hy_1) (.cons (q.t 0 rfl) (.ren rfl) (.nil)) rfl)<| .p rfl (fun _ q _ => .move (l1 rfl) (q.t 0 rfl))<| .gt rfl rfl rfl rfl rfl (fun hg _ q _ => .move (l1 rfl) (q.t 1 rfl))<| .gt rfl rfl rfl rfl rfl (fun hg _ q _ => .lenRd (l1 rfl) (.gd hg (q.t 1 rfl)) Tryz.underlying23)<| .gt rfl rfl rfl rfl rfl (fun hg _ q _ => .eql (l1 rfl) (.gd hg (q.t 1 rfl)) (.const _ _ _))<| .p rfl (fun _ q _ => .pickAnd (l1 rfl) (q.t 0 rfl) (q.t 1 rfl) (.const _ _ _))<| .p rfl (fun _ q _ => .move (l1 rfl) (q.t 0 rfl))<| .rt rfl rfl rfl rfl rfl rfl (fun hg _ q => .fieldP (l1 rfl) (q.t 1 rfl) fld25_3)<| .rt rfl rfl rfl rfl rfl rfl (fun hg _ q => .loadP (l1 rfl) (.gd hg (q.t 1 rfl)) one3 rfl rfl rfl)<| .rt rfl rfl rfl rfl rfl rfl (fun hg _ q => .loadPA (l1 rfl) (q.t 1 rfl) agg25 rfl rfl rfl rfl)<| .gt rfl rfl rfl rfl rfl (fun hg _ q _ => .call0 (bw := false) (l1 rfl) (c70 (β1 := β1) (β2 := β2) n (R24.mk a0.Jb a0.Dn a0.Mt a0.Bo) (gdB hy_2 hg)) (.cons (.gd hg (q.t 1 rfl)) (.ren rfl) (.nil)) rfl)<| .gt rfl rfl rfl rfl rfl (fun hg _ q _ => .leq (l1 rfl) (.gd hg (q.t 1 rfl)) (.gd hg (q.t 2 rfl)))<| .p rfl (fun _ q _ => .pickAnd (l1 rfl) (q.t 0 rfl) (q.t 1 rfl) (.const _ _ _))<| .p rfl (fun _ q _ => .assign (l1 rfl) (q.t 0 rfl))<| .nil _) rfl rfl ?_
 refine AWP.ret ?_
 obtain rfl := Option.some.inj h
 refine retJ (Res.vc (s' := ⟨[(4,bW ((y_1 && (decide ((a1.length : Int) = (0 : Int)))) && (decide (a0.Bo ≤ y_2))))],[]⟩) (VC.sub (.of rfl) (.n _)) ?_)
 refine Res.drop (H := []) rfl ?_
 exact Res.of rfl (.cons (.tmp rfl) (.nil)) rfl rfl
theorem c56 {β2 : Bool} (n : Nat) (a0 : R24) (a1 : Int) {r : ((List R24) × Bool)} (h : m56 n a0 a1 = some r) : Spec Tryz.prog 56 [] [.agg (gW false β2 a0.Jb a0.Dn a0.Mt a0.Bo),iW a1] [] (.tup [rW false r.1 encR24,bW r.2]) [] := by
 refine Spec.of (fn := Tryz.f56) Tryz.func56 Tryz.ntmps56 rfl rfl (le1 rfl) (fun w0 Zs Zb T0 ι0 => ?_)
 unfold m56 at h
 refine AWP.seq ?_
 refine AWP.rg (.cons (.box (t := 1) (n := 4) (l1 rfl) (nm rfl) (.t rfl) (by first | exact ⟨rfl,rfl⟩ | rfl) rfl)<| .cons (.assign (l1 rfl) (.const _ _ _))<| .cons (.assign (l1 rfl) (.const _ _ _))<| .nil _ _ _) ?_
 refine AWP.vs ⟨[(1,iW a1),(2,.ptr 1 0)],[(1,⟨25,false,(gW false β2 a0.Jb a0.Dn a0.Mt a0.Bo)⟩)]⟩ rfl rfl ?_
 refine AWP.seq ?_
 refine AWP.seq ?_
 obtain ⟨y_1,hy_1,h⟩ := bindS h
 refine AWP.rg (.cons (.loadPA (l1 rfl) (.t rfl) agg25 rfl rfl rfl rfl)<| .cons (.call0 (bw := false) (l1 rfl) (c31 (β1 := false) (β2 := β2) n (R24.mk a0.Jb a0.Dn a0.Mt a0.Bo) hy_1) (.cons (.t rfl) (.ren rfl) (.nil)) rfl)<| .cons (.not (l1 rfl) (.t rfl))<| .cons (.move (l1 rfl) (.t rfl))<| .guard (j := 3) (dj := 11) rfl (l1 rfl) rfl (l1 rfl) (fun hg => .move (l1 rfl) (.t rfl))<| .guard (j := 3) (dj := 11) rfl (l1 rfl) rfl (l1 rfl) (fun hg => .neq (l1 rfl) (.gd hg (.t rfl)) (.const _ _ _))<| .cons (.pickOr (l1 rfl) (.t rfl) (.const _ _ _) (.t rfl))<| .cons (.move (l1 rfl) (.t rfl))<| .guard (j := 7) (dj := 15) rfl (l1 rfl) rfl (l1 rfl) (fun hg => .fieldP (l1 rfl) (.t rfl) fld25_1)<| .guard (j := 7) (dj := 15) rfl (l1 rfl) rfl (l1 rfl) (fun hg => .loadP (l1 rfl) (.gd hg (.t rfl)) one23 rfl rfl rfl)<| .guard (j := 7) (dj := 15) rfl (l1 rfl) rfl (l1 rfl) (fun hg => .lenRd (l1 rfl) (.gd hg (.t rfl)) Tryz.underlying23)<| .guard (j := 7) (dj := 15) rfl (l1 rfl) rfl (l1 rfl) (fun hg => .fieldP (l1 rfl) (.t rfl) fld25_0)<| .guard (j := 7) (dj := 15) rfl (l1 rfl) rfl (l1 rfl) (fun hg => .loadP (l1 rfl) (.gd hg (.t rfl)) one22 rfl rfl rfl)<| .guard (j := 7) (dj := 15) rfl (l1 rfl) rfl (l1 rfl) (fun hg => .lenRd (l1 rfl) (.gd hg (.t rfl)) Tryz.underlying22)<| .guard (j := 7) (dj := 15) rfl (l1 rfl) rfl (l1 rfl) (fun hg => .eql (l1 rfl) (.gd hg (.t rfl)) (.gd hg (.t rfl)))<| .cons (.pickOr (l1 rfl) (.t rfl) (.const _ _ _) (.t rfl))<| .nil _ _ _) ?_
 refine AWP.vs ⟨[(2,.ptr 1 0),(23,bW (((!y_1) || (!decide (a1 = (0 : Int)))) || (decide ((a0.Dn.length : Int) = (a0.Jb.length : Int)))))],[(1,⟨25,false,(gW false β2 a0.Jb a0.Dn a0.Mt a0.Bo)⟩)]⟩ rfl rfl ?_
 refine AWP.cond (.t rfl) (fun hc => ?_) (fun hc => ?_)
 ·have h := iteT hc h
  refine AWP.seq ?_
  refine AWP.rg (.cons (.assign (l1 rfl) (.const _ _ _))<| .cons (.assign (l1 rfl) (.const _ _ _))<| .nil _ _ _) ?_
  refine AWP.ret ?_
  obtain rfl := Option.some.inj h
  refine retJ (Res.vc (s' := ⟨[(4,rW false ([] : List R24) encR24),(5,bW false)],[]⟩) (VC.trans (VC.nilRd (d := 4) false rfl) (VC.sub (.of rfl) (.n _))) ?_)
  refine Res.drop (H := []) rfl ?_
  exact Res.of rfl (.cons (.tmp rfl) (.cons (.tmp rfl) (.nil))) rfl rfl
 ·have h := iteF hc h
  refine AWP.skip ?_
  refine AWP.seq ?_
  refine AWP.rg (.cons (.assign (l1 rfl) (.const _ _ _))<| .nil _ _ _) ?_
  refine AWP.vs ⟨[(2,.ptr 1 0),(6,.sc (.slice none 0 0))],[(1,⟨25,false,(gW false β2 a0.Jb a0.Dn a0.Mt a0.Bo)⟩)]⟩ rfl rfl ?_
  refine AWP.seq ?_
  refine AWP.seq ?_
  refine AWP.rg (.cons (.assign (l1 rfl) (.const _ _ _))<| .nil _ _ _) ?_
  refine AWP.vs ⟨[(2,.ptr 1 0),(6,.sc (.slice none 0 0)),(7,iW (0 : Int))],[(1,⟨25,false,(gW false β2 a0.Jb a0.Dn a0.Mt a0.Bo)⟩)]⟩ rfl rfl ?_
  refine AWP.joinB' (S := fun p_27 : (List R24) => ⟨[(6,.own 2 4 0 p_27.length)],[(2,⟨25,true,p_27.flatMap encR24⟩)]⟩) h (fun p_27 h => ?_) (fun k_28 h => ?_)
  ·refine AWP.seq ?_
   refine AWP.rg (.cons (.move (l1 rfl) (.t rfl))<| .cons (.assign (l1 rfl) (.t rfl))<| .cons (.assign (l1 rfl) (.const _ _ _))<| .nil _ _ _) ?_
   refine AWP.ret ?_
   obtain rfl := Option.some.inj h
   refine retJ (Res.vc (s' := ⟨[(4,rW false p_27 encR24),(5,bW true)],[]⟩) (VC.trans (VC.frz (d := 4) (t := 2) rfl rfl encR24_len) (VC.sub (.of rfl) (.n _))) ?_)
   refine Res.drop (H := []) rfl ?_
   exact Res.of rfl (.cons (.tmp rfl) (.cons (.tmp rfl) (.nil))) rfl rfl
  ·refine AWP.vc (VC.nilOwn (d := 6) (t := 2) (sz := 4) (E := 25) rfl (nm rfl)) ?_
   refine AWP.vs ⟨[(2,.ptr 1 0),(6,.own 2 4 0 ([] : List R24).length),(7,iW (0 : Int))],[(1,⟨25,false,(gW false β2 a0.Jb a0.Dn a0.Mt a0.Bo)⟩),(2,⟨25,true,([] : List R24).flatMap encR24⟩)]⟩ rfl rfl ?_
   refine AWP.loopM (S := fun x_18 : Int × (List R24) => ⟨[(2,.ptr 1 0),(6,.own 2 4 0 x_18.2.length),(7,iW x_18.1)],[(1,⟨25,false,(gW false β2 a0.Jb a0.Dn a0.Mt a0.Bo)⟩),(2,⟨25,true,x_18.2.flatMap encR24⟩)]⟩) (x := ((0 : Int),([] : List R24))) (fun nx_19 x_18 h => ?_) h
   unfold m56_L1 at h
   refine AWP.seq ?_
   refine AWP.seq ?_
   refine AWP.rg (.cons (.move (l1 rfl) (.t rfl))<| .cons (.fieldP (l1 rfl) (.t rfl) fld25_0)<| .cons (.loadP (l1 rfl) (.t rfl) one22 rfl rfl rfl)<| .cons (.lenRd (l1 rfl) (.t rfl) Tryz.underlying22)<| .cons (.lss (l1 rfl) (.t rfl) (.t rfl))<| .nil _ _ _) ?_
   refine AWP.vs ⟨[(2,.ptr 1 0),(6,.own 2 4 0 x_18.2.length),(7,iW x_18.1),(28,bW (decide (x_18.1 < (a0.Jb.length : Int))))],[(1,⟨25,false,(gW false β2 a0.Jb a0.Dn a0.Mt a0.Bo)⟩),(2,⟨25,true,x_18.2.flatMap encR24⟩)]⟩ rfl rfl ?_
   refine AWP.cond (.t rfl) (fun hc => ?_) (fun hc => ?_)
   ·have h := iteT hc h
    refine AWP.skip ?_
    refine AWP.seq ?_
    refine AWP.block ?_
    refine AWP.seq ?_
    obtain ⟨y_20,hy_20,h⟩ := bindS h
    refine AWP.rg (.cons (.fieldP (l1 rfl) (.t rfl) fld25_1)<| .cons (.loadP (l1 rfl) (.t rfl) one23 rfl rfl rfl)<| .cons (.move (l1 rfl) (.t rfl))<| .cons (.call0 (bw := false) (l1 rfl) (c58 (β1 := β2) n a0.Dn x_18.1 hy_20) (.cons (.t rfl) (.ren rfl) (.cons (.t rfl) (.ren rfl) (.nil))) rfl)<| .cons (.not (l1 rfl) (.t rfl))<| .nil _ _ _) ?_
    refine AWP.vs ⟨[(2,.ptr 1 0),(6,.own 2 4 0 x_18.2.length),(7,iW x_18.1),(35,bW (!y_20))],[(1,⟨25,false,(gW false β2 a0.Jb a0.Dn a0.Mt a0.Bo)⟩),(2,⟨25,true,x_18.2.flatMap encR24⟩)]⟩ rfl rfl ?_
    refine AWP.join' (S := fun p_24 : (List R24) => ⟨[(2,.ptr 1 0),(6,.own 2 4 0 p_24.length),(7,iW x_18.1)],[(1,⟨25,false,(gW false β2 a0.Jb a0.Dn a0.Mt a0.Bo)⟩),(2,⟨25,true,p_24.flatMap encR24⟩)]⟩) h (fun p_24 h => ?_) (fun k_25 h => ?_)
    ·obtain ⟨t7_26,ht7_26,h⟩ := letS h
     refine AWP.rg (.cons (.move (l1 rfl) (.t rfl))<| .cons (.add (l1 rfl) (.t rfl) (.const _ _ _))<| .cons (.assign (l1 rfl) (.t rfl))<| .nil _ _ _) ?_
     exact endJ (t7_26,p_24) h (by subst ht7_26; exact VC.sub (.of rfl) (.of rfl))
    ·refine AWP.cond (.t rfl) (fun hc => ?_) (fun hc => ?_)
     ·have h := iteT hc h
      obtain ⟨l3_21,hl3_21,h⟩ := bindS h
      obtain ⟨l3_22,hl3_22,h⟩ := bindS h
      obtain ⟨l2_23,hl2_23,h⟩ := bindS h
      refine AWP.dw mixed [(2,.ptr 1 0),(6,.own 2 4 0 x_18.2.length),(7,iW x_18.1),(35,bW (!y_20))] [(1,[16,17]),(4,[16]),(7,[6,9]),(10,[9])] [⟨[1],0,3,some (36,.own 2 4 0 x_18.2.length),[]⟩,⟨[0],0,3,some (37,.ptr 1 (0 + 0)),[]⟩,⟨[5],0,3,some (38,rW false a0.Jb e63),[]⟩,⟨[],0,0,some (39,.own 3 1 0 ([] : List Int).length),[3]⟩,⟨[0],0,1,some (40,.ptr 1 (0 + 1)),[]⟩,⟨[8],0,1,some (41,rW β2 a0.Dn eW),[]⟩,⟨[7,9],1,1,some (42,.own 3 1 0 l3_21.length),[3]⟩,⟨[2],0,4,some (43,iW x_18.1),[]⟩,⟨[11],0,4,some (44,rW false ([x_18.1] : List Int) eW),[]⟩,⟨[10,12],2,2,some (45,rW false l3_22 eW),[3]⟩,⟨[0],0,3,some (46,.ptr 1 (0 + 2)),[]⟩,⟨[14],0,3,some (47,bW a0.Mt),[]⟩,⟨[0],0,3,some (48,.ptr 1 (0 + 3)),[]⟩,⟨[16],0,3,some (49,iW a0.Bo),[]⟩,⟨[6,13,15,17],0,4,some (50,.agg [rW false a0.Jb e63,rW false l3_22 eW,bW a0.Mt,iW a0.Bo]),[]⟩,⟨[18],0,4,some (51,rW false ([(R24.mk a0.Jb l3_22 a0.Mt a0.Bo)] : List R24) encR24),[]⟩,⟨[4,19],3,3,some (52,.own 2 4 0 l2_23.length),[2]⟩,⟨[20],4,4,some (6,.own 2 4 0 l2_23.length),[]⟩] [3,6,9,16] [[(1,⟨25,false,(gW false β2 a0.Jb a0.Dn a0.Mt a0.Bo)⟩),(2,⟨25,true,x_18.2.flatMap encR24⟩)],[(3,⟨3,true,([] : List Int).flatMap eW⟩),(1,⟨25,false,(gW false β2 a0.Jb a0.Dn a0.Mt a0.Bo)⟩),(2,⟨25,true,x_18.2.flatMap encR24⟩)],[(3,⟨3,true,l3_21.flatMap eW⟩),(1,⟨25,false,(gW false β2 a0.Jb a0.Dn a0.Mt a0.Bo)⟩),(2,⟨25,true,x_18.2.flatMap encR24⟩)],[(1,⟨25,false,(gW false β2 a0.Jb a0.Dn a0.Mt a0.Bo)⟩),(2,⟨25,true,x_18.2.flatMap encR24⟩)],[(2,⟨25,true,l2_23.flatMap encR24⟩),(1,⟨25,false,(gW false β2 a0.Jb a0.Dn a0.Mt a0.Bo)⟩)]] [[],[],[1,2],[],[],[4,5],[3,6],[],[7,8],[3,9],[],[10,11],[],[12,13],[1,14],[1,15],[0,16],[0,17]] [0,21,2] rfl rfl (by kernel_rfl) rfl (.read rfl (.c (.put (fun E hE => .move (l1 rfl) (hE.t 0 rfl))) (.c (.put (fun E hE => .move (l1 rfl) (hE.t 0 rfl))) (.c (.put (fun E hE => .move (l1 rfl) (hE.t 0 rfl))) (.c (.put (fun E hE => .move (l1 rfl) (hE.t 0 rfl))) (.n)))))<| .read rfl (.c (.put (fun E hE => .fieldP (l1 rfl) (hE.t 0 rfl) fld25_0)) (.c (.put (fun E hE => .fieldP (l1 rfl) (hE.t 0 rfl) fld25_0)) (.c (.put (fun E hE => .fieldP (l1 rfl) (hE.t 0 rfl) fld25_0)) (.c (.put (fun E hE => .fieldP (l1 rfl) (hE.t 0 rfl) fld25_0)) (.n)))))<| .read rfl (.c (.put (fun E hE => .loadP (l1 rfl) (hE.t 0 rfl) one22 rfl rfl rfl)) (.c (.put (fun E hE => .loadP (l1 rfl) (hE.t 0 rfl) one22 rfl rfl rfl)) (.c (.put (fun E hE => .loadP (l1 rfl) (hE.t 0 rfl) one22 rfl rfl rfl)) (.c (.put (fun E hE => .loadP (l1 rfl) (hE.t 0 rfl) one22 rfl rfl rfl)) (.n)))))<| .turn rfl rfl rfl rfl rfl (.new (fun E hE => .buildSlice (t := 3) (out := ([] : List Int).flatMap eW) (l1 rfl) (nm rfl) (.nil) Tryz.underlying23 zero3 el3 (by decide) (by decide) rfl (still_all (encI_still .i64) _)) rfl)<| .read rfl (.c (.put (fun E hE => .fieldP (l1 rfl) (hE.t 0 rfl) fld25_1)) (.c (.put (fun E hE => .fieldP (l1 rfl) (hE.t 0 rfl) fld25_1)) (.n)))<| .read rfl (.c (.put (fun E hE => .loadP (l1 rfl) (hE.t 0 rfl) one23 rfl rfl rfl)) (.c (.put (fun E hE => .loadP (l1 rfl) (hE.t 0 rfl) one23 rfl rfl rfl)) (.n)))<| .turn rfl rfl rfl rfl rfl (.new (fun E hE => .app (enc := eW) (l1 rfl) (nm rfl) (hE.t 0 rfl) (Src.rd (hE.t 1 rfl) (flatMap_length (encI_len .i64) _) (one_all (encI_one .i64) _) (.inr (scal_all (encI_scal .i64) _))) Tryz.underlying23 ⟨_,Tryz.underlying23,by intro k hk; cases hk⟩ el3 rfl (encI_len .i64) rfl rfl (by decide) hl3_21) rfl)<| .p rfl (fun _ q _ => .move (l1 rfl) (q.t 0 rfl))<| .p rfl (fun _ q _ => .frzAny (fun t ht => AStep.buildSlice (t := t) (out := ([x_18.1] : List Int).flatMap eW) (l1 rfl) ht (.cons (q.t 0 rfl) (by first | exact ⟨rfl,rfl⟩ | rfl) (.nil)) Tryz.underlying23 zero3 el3 (by decide) (by decide) rfl (still_all (encI_still .i64) _)) rfl (encI_len .i64))<| .turn rfl rfl rfl rfl rfl (.appFrz (fun E hE => .app (enc := eW) (l1 rfl) (nm rfl) (hE.t 0 rfl) (Src.rd (hE.t 1 rfl) (flatMap_length (encI_len .i64) _) (one_all (encI_one .i64) _) (.inl rfl)) Tryz.underlying23 ⟨_,Tryz.underlying23,by intro k hk; cases hk⟩ el3 rfl (encI_len .i64) rfl rfl (by decide) hl3_22) rfl (encI_len .i64))<| .read rfl (.c (.put (fun E hE => .fieldP (l1 rfl) (hE.t 0 rfl) fld25_2)) (.c (.put (fun E hE => .fieldP (l1 rfl) (hE.t 0 rfl) fld25_2)) (.c (.put (fun E hE => .fieldP (l1 rfl) (hE.t 0 rfl) fld25_2)) (.c (.put (fun E hE => .fieldP (l1 rfl) (hE.t 0 rfl) fld25_2)) (.n)))))<| .read rfl (.c (.put (fun E hE => .loadP (l1 rfl) (hE.t 0 rfl) one4 rfl rfl rfl)) (.c (.put (fun E hE => .loadP (l1 rfl) (hE.t 0 rfl) one4 rfl rfl rfl)) (.c (.put (fun E hE => .loadP (l1 rfl) (hE.t 0 rfl) one4 rfl rfl rfl)) (.c (.put (fun E hE => .loadP (l1 rfl) (hE.t 0 rfl) one4 rfl rfl rfl)) (.n)))))<| .read rfl (.c (.put (fun E hE => .fieldP (l1 rfl) (hE.t 0 rfl) fld25_3)) (.c (.put (fun E hE => .fieldP (l1 rfl) (hE.t 0 rfl) fld25_3)) (.c (.put (fun E hE => .fieldP (l1 rfl) (hE.t 0 rfl) fld25_3)) (.c (.put (fun E hE => .fieldP (l1 rfl) (hE.t 0 rfl) fld25_3)) (.n)))))<| .read rfl (.c (.put (fun E hE => .loadP (l1 rfl) (hE.t 0 rfl) one3 rfl rfl rfl)) (.c (.put (fun E hE => .loadP (l1 rfl) (hE.t 0 rfl) one3 rfl rfl rfl)) (.c (.put (fun E hE => .loadP (l1 rfl) (hE.t 0 rfl) one3 rfl rfl rfl)) (.c (.put (fun E hE => .loadP (l1 rfl) (hE.t 0 rfl) one3 rfl rfl rfl)) (.n)))))<| .p rfl (fun _ q _ => .buildO (offs := [(0,1),(1,1),(2,1),(3,1)]) (l1 rfl) (.cons (q.t 0 rfl) (by first | exact ⟨rfl,rfl⟩ | rfl) (.cons (q.t 1 rfl) (by first | exact ⟨rfl,rfl⟩ | rfl) (.cons (q.t 2 rfl) (by first | exact ⟨rfl,rfl⟩ | rfl) (.cons (q.t 3 rfl) (by first | exact ⟨rfl,rfl⟩ | rfl) (.nil))))) zero25 offs25 rfl)<| .p rfl (fun _ q _ => .frzAny (fun t ht => AStep.buildSlice (t := t) (out := ([(R24.mk a0.Jb l3_22 a0.Mt a0.Bo)] : List R24).flatMap encR24) (l1 rfl) ht (.cons (q.t 0 rfl) (by first | exact ⟨rfl,rfl⟩ | rfl) (.nil)) Tryz.underlying101 zero25 el25 (by decide) (by decide) rfl (still_all encR24_still _)) rfl encR24_len)<| .turn rfl rfl rfl rfl rfl (.new (fun E hE => .app (enc := encR24) (l1 rfl) (nm rfl) (hE.t 0 rfl) (Src.rd (hE.t 1 rfl) (flatMap_length encR24_len _) (one_all encR24_one _) (.inl rfl)) Tryz.underlying101 ⟨_,Tryz.underlying101,by intro k hk; cases hk⟩ el25 rfl encR24_len rfl rfl (by decide) hl2_23) rfl)<| .read rfl (.c (.put (fun E hE => .assign (l1 rfl) (hE.t 0 rfl))) (.n))<| .nil _) rfl rfl ?_
      exact endJ l2_23 h (VC.sub (.of rfl) (.of rfl))
     ·have h := iteF hc h
      refine AWP.skip ?_
      exact endJ x_18.2 h (VC.sub (.of rfl) (.of rfl))
   ·have h := iteF hc h
    refine AWP.exit ?_
    exact endJ x_18.2 h (VC.sub (.of rfl) (.of rfl))
theorem c33F (n : Nat) : ∀ (f : Nat) {β2 : Bool} {β3 : Bool} {β4 : Bool} (a0 : R24) (a1 : R27) {r : ((List Int) × Bool)},m33F n f a0 a1 = some r → Spec Tryz.prog 33 [] [.agg (gW false β2 a0.Jb a0.Dn a0.Mt a0.Bo),.agg (tW encK27 β3 β4 a1.Sp a1.Kd a1.Lf)] [] (.tup [rW false r.1 eW,bW r.2]) [] := by
 intro f
 induction f with
 | zero =>
  intro β2 β3 β4 a0 a1 r h
  cases (show (none : Option ((List Int) × Bool)) = some r from h)
 | succ f ih =>
 intro β2 β3 β4 a0 a1 r h
 replace h : m33B n (m33F n f) a0 a1 = some r := h
 generalize m33F n f = rc_0 at h ih
 refine Spec.of (fn := Tryz.f33) Tryz.func33 Tryz.ntmps33 rfl rfl (le1 rfl) (fun w0 Zs Zb T0 ι0 => ?_)
 unfold m33B at h
 refine AWP.seq ?_
 refine AWP.rg (.cons (.box (t := 1) (n := 4) (l1 rfl) (nm rfl) (.t rfl) (by first | exact ⟨rfl,rfl⟩ | rfl) rfl)<| .cons (.box (t := 2) (n := 3) (l1 rfl) (nm rfl) (.t rfl) (by first | exact ⟨rfl,rfl⟩ | rfl) rfl)<| .cons (.assign (l1 rfl) (.const _ _ _))<| .cons (.assign (l1 rfl) (.const _ _ _))<| .nil _ _ _) ?_
 refine AWP.vs ⟨[(2,.ptr 1 0),(3,.ptr 2 0)],[(2,⟨28,false,(tW encK27 β3 β4 a1.Sp a1.Kd a1.Lf)⟩),(1,⟨25,false,(gW false β2 a0.Jb a0.Dn a0.Mt a0.Bo)⟩)]⟩ rfl rfl ?_
 refine AWP.seq ?_
 refine AWP.seq ?_
 refine AWP.rg (.cons (.fieldP (l1 rfl) (.t rfl) fld28_1)<| .cons (.loadP (l1 rfl) (.t rfl) one26 rfl rfl rfl)<| .cons (.lenRd (l1 rfl) (.t rfl) Tryz.underlying26)<| .cons (.eql (l1 rfl) (.t rfl) (.const _ _ _))<| .nil _ _ _) ?_
 refine AWP.vs ⟨[(2,.ptr 1 0),(3,.ptr 2 0),(14,bW (decide ((a1.Kd.length : Int) = (0 : Int))))],[(2,⟨28,false,(tW encK27 β3 β4 a1.Sp a1.Kd a1.Lf)⟩),(1,⟨25,false,(gW false β2 a0.Jb a0.Dn a0.Mt a0.Bo)⟩)]⟩ rfl rfl ?_
 refine AWP.cond (.t rfl) (fun hc => ?_) (fun hc => ?_)
 ·have h := iteT hc h
  refine AWP.seq ?_
  obtain ⟨y_1,hy_1,h⟩ := bindS h
  refine AWP.rg (.cons (.loadPA (l1 rfl) (.t rfl) agg25 rfl rfl rfl rfl)<| .cons (.fieldP (l1 rfl) (.t rfl) fld28_2)<| .cons (.loadP (l1 rfl) (.t rfl) one23 rfl rfl rfl)<| .cons (.call0 (bw := false) (l1 rfl) (c55 (β1 := false) (β2 := β2) (β3 := β4) n (R24.mk a0.Jb a0.Dn a0.Mt a0.Bo) a1.Lf hy_1) (.cons (.t rfl) (.ren rfl) (.cons (.t rfl) (.ren rfl) (.nil))) rfl)<| .cons (.not (l1 rfl) (.t rfl))<| .cons (.assign (l1 rfl) (.const _ _ _))<| .cons (.assign (l1 rfl) (.t rfl))<| .nil _ _ _) ?_
  refine AWP.ret ?_
  obtain rfl := Option.some.inj h
  refine retJ (Res.vc (s' := ⟨[(4,rW false ([] : List Int) eW),(5,bW (!y_1))],[]⟩) (VC.trans (VC.nilRd (d := 4) false rfl) (VC.sub (.of rfl) (.n _))) ?_)
  refine Res.drop (H := []) rfl ?_
  exact Res.of rfl (.cons (.tmp rfl) (.cons (.tmp rfl) (.nil))) rfl rfl
 ·have h := iteF hc h
  refine AWP.skip ?_
  refine AWP.seq ?_
  obtain ⟨y_2,hy_2,h⟩ := bindS h
  refine AWP.rg (.cons (.loadPA (l1 rfl) (.t rfl) agg25 rfl rfl rfl rfl)<| .cons (.fieldP (l1 rfl) (.t rfl) fld28_0)<| .cons (.loadP (l1 rfl) (.t rfl) one3 rfl rfl rfl)<| .cons (.call0 (bw := false) (l1 rfl) (c56 (β2 := β2) n (R24.mk a0.Jb a0.Dn a0.Mt a0.Bo) a1.Sp hy_2) (.cons (.t rfl) (.ren rfl) (.cons (.t rfl) (.ren rfl) (.nil))) rfl)<| .cons (.move (l1 rfl) (.t rfl))<| .cons (.extract (l1 rfl) (.t rfl) rfl)<| .cons (.extract (l1 rfl) (.t rfl) rfl)<| .cons (.assign (l1 rfl) (.t rfl))<| .cons (.assign (l1 rfl) (.t rfl))<| .nil _ _ _) ?_
  refine AWP.vs ⟨[(3,.ptr 2 0),(6,rW false y_2.1 encR24),(7,bW y_2.2)],[(2,⟨28,false,(tW encK27 β3 β4 a1.Sp a1.Kd a1.Lf)⟩)]⟩ rfl rfl ?_
  refine AWP.seq ?_
  refine AWP.seq ?_
  refine AWP.rg (.cons (.move (l1 rfl) (.t rfl))<| .cons (.not (l1 rfl) (.t rfl))<| .cons (.move (l1 rfl) (.t rfl))<| .guard (j := 2) (dj := 29) rfl (l1 rfl) rfl (l1 rfl) (fun hg => .move (l1 rfl) (.t rfl))<| .guard (j := 2) (dj := 29) rfl (l1 rfl) rfl (l1 rfl) (fun hg => .lenRd (l1 rfl) (.gd hg (.t rfl)) Tryz.underlying101)<| .guard (j := 2) (dj := 29) rfl (l1 rfl) rfl (l1 rfl) (fun hg => .fieldP (l1 rfl) (.t rfl) fld28_1)<| .guard (j := 2) (dj := 29) rfl (l1 rfl) rfl (l1 rfl) (fun hg => .loadP (l1 rfl) (.gd hg (.t rfl)) one26 rfl rfl rfl)<| .guard (j := 2) (dj := 29) rfl (l1 rfl) rfl (l1 rfl) (fun hg => .lenRd (l1 rfl) (.gd hg (.t rfl)) Tryz.underlying26)<| .guard (j := 2) (dj := 29) rfl (l1 rfl) rfl (l1 rfl) (fun hg => .neq (l1 rfl) (.gd hg (.t rfl)) (.gd hg (.t rfl)))<| .cons (.pickOr (l1 rfl) (.t rfl) (.const _ _ _) (.t rfl))<| .nil _ _ _) ?_
  refine AWP.vs ⟨[(3,.ptr 2 0),(6,rW false y_2.1 encR24),(36,bW ((!y_2.2) || (!decide ((y_2.1.length : Int) = (a1.Kd.length : Int)))))],[(2,⟨28,false,(tW encK27 β3 β4 a1.Sp a1.Kd a1.Lf)⟩)]⟩ rfl rfl ?_
  refine AWP.cond (.t rfl) (fun hc => ?_) (fun hc => ?_)
  ·have h := iteT hc h
   refine AWP.seq ?_
   refine AWP.rg (.cons (.assign (l1 rfl) (.const _ _ _))<| .cons (.assign (l1 rfl) (.const _ _ _))<| .nil _ _ _) ?_
   refine AWP.ret ?_
   obtain rfl := Option.some.inj h
   refine retJ (Res.vc (s' := ⟨[(4,rW false ([] : List Int) eW),(5,bW true)],[]⟩) (VC.trans (VC.nilRd (d := 4) false rfl) (VC.sub (.of rfl) (.n _))) ?_)
   refine Res.drop (H := []) rfl ?_
   exact Res.of rfl (.cons (.tmp rfl) (.cons (.tmp rfl) (.nil))) rfl rfl
  ·have h := iteF hc h
   refine AWP.skip ?_
   refine AWP.seq ?_
   refine AWP.seq ?_
   refine AWP.rg (.cons (.assign (l1 rfl) (.const _ _ _))<| .nil _ _ _) ?_
   refine AWP.vs ⟨[(3,.ptr 2 0),(6,rW false y_2.1 encR24),(8,iW (0 : Int))],[(2,⟨28,false,(tW encK27 β3 β4 a1.Sp a1.Kd a1.Lf)⟩)]⟩ rfl rfl ?_
   refine AWP.joinB' (S := fun p_22 : Unit => ⟨[],[]⟩) h (fun p_22 h => ?_) (fun k_23 h => ?_)
   ·refine AWP.seq ?_
    refine AWP.rg (.cons (.assign (l1 rfl) (.const _ _ _))<| .cons (.assign (l1 rfl) (.const _ _ _))<| .nil _ _ _) ?_
    refine AWP.ret ?_
    obtain rfl := Option.some.inj h
    refine retJ (Res.vc (s' := ⟨[(4,rW false ([] : List Int) eW),(5,bW false)],[]⟩) (VC.trans (VC.nilRd (d := 4) false rfl) (VC.sub (.of rfl) (.n _))) ?_)
    refine Res.drop (H := []) rfl ?_
    exact Res.of rfl (.cons (.tmp rfl) (.cons (.tmp rfl) (.nil))) rfl rfl
   ·refine AWP.vs ⟨[(3,.ptr 2 0),(6,rW false y_2.1 encR24),(8,iW (0 : Int))],[(2,⟨28,false,(tW encK27 β3 β4 a1.Sp a1.Kd a1.Lf)⟩)]⟩ rfl rfl ?_
    refine AWP.loopM (S := fun x_15 : Int => ⟨[(3,.ptr 2 0),(6,rW false y_2.1 encR24),(8,iW x_15)],[(2,⟨28,false,(tW encK27 β3 β4 a1.Sp a1.Kd a1.Lf)⟩)]⟩) (x := (0 : Int)) (fun nx_16 x_15 h => ?_) h
    unfold m33_L1 at h
    refine AWP.seq ?_
    refine AWP.seq ?_
    refine AWP.rg (.cons (.move (l1 rfl) (.t rfl))<| .cons (.move (l1 rfl) (.t rfl))<| .cons (.lenRd (l1 rfl) (.t rfl) Tryz.underlying101)<| .cons (.lss (l1 rfl) (.t rfl) (.t rfl))<| .nil _ _ _) ?_
    refine AWP.vs ⟨[(3,.ptr 2 0),(6,rW false y_2.1 encR24),(8,iW x_15),(40,bW (decide (x_15 < (y_2.1.length : Int))))],[(2,⟨28,false,(tW encK27 β3 β4 a1.Sp a1.Kd a1.Lf)⟩)]⟩ rfl rfl ?_
    refine AWP.cond (.t rfl) (fun hc => ?_) (fun hc => ?_)
    ·have h := iteT hc h
     refine AWP.skip ?_
     refine AWP.seq ?_
     refine AWP.block ?_
     refine AWP.seq ?_
     obtain ⟨y_17,hy_17,h⟩ := bindS h
     obtain ⟨y_18,hy_18,h⟩ := bindS h
     obtain ⟨y_19,hy_19,h⟩ := bindS h
     refine AWP.dw mixed [(3,.ptr 2 0),(6,rW false y_2.1 encR24),(8,iW x_15),(40,bW (decide (x_15 < (y_2.1.length : Int))))] [] [dO [1] 44 (rW false y_2.1 encR24),dO [2] 45 (iW x_15),dO [4,5] 46 (.rptr false (gW false false y_17.Jb y_17.Dn y_17.Mt y_17.Bo)),dO [6] 47 (.agg (gW false false y_17.Jb y_17.Dn y_17.Mt y_17.Bo)),dO [0] 48 (.ptr 2 (0 + 1)),dO [8] 49 (rW β3 a1.Kd encK27),dO [2] 50 (iW x_15),dO [9,10] 51 (.rptr β3 (tW encK27 false false y_18.out.Sp y_18.out.Kd y_18.out.Lf)),dO [11] 52 (.agg (tW encK27 β3 β3 y_18.out.Sp y_18.out.Kd y_18.out.Lf)),dO [7,12] 53 (.tup [rW false y_19.1 eW,bW y_19.2]),dO [13] 43 (.tup [rW false y_19.1 eW,bW y_19.2]),dO [14] 54 (rW false y_19.1 eW),dO [14] 55 (bW y_19.2),dO [15] 9 (rW false y_19.1 eW),dO [16] 10 (bW y_19.2)] [] [[(2,⟨28,false,(tW encK27 β3 β4 a1.Sp a1.Kd a1.Lf)⟩)]] [[],[],[0,2],[0,3],[],[4,5],[],[4,7],[4,8],[0,9],[0,10],[0,11],[0,11],[0,12],[0,14]] [0,1,2,17,18] rfl rfl (by kernel_rfl) rfl (.p rfl (fun _ q _ => .move (l1 rfl) (q.t 0 rfl))<| .p rfl (fun _ q _ => .move (l1 rfl) (q.t 0 rfl))<| .p rfl (fun _ q _ => .indexRd (enc := encR24) (l1 rfl) (q.t 0 rfl) (q.t 1 rfl) Tryz.underlying101 sz25 encR24_len rfl hy_17)<| .p rfl (fun _ q _ => .loadRA (out := (gW false false y_17.Jb y_17.Dn y_17.Mt y_17.Bo)) (l1 rfl) (q.t 0 rfl) agg25 (Nat.le_of_eq (Eq.symm (encR24_len _))) rfl)<| .r rfl rfl (fun _ q => .fieldP (l1 rfl) (q.t 0 rfl) fld28_1)<| .r rfl rfl (fun _ q => .loadP (l1 rfl) (q.t 0 rfl) one26 rfl rfl rfl)<| .p rfl (fun _ q _ => .move (l1 rfl) (q.t 0 rfl))<| .p rfl (fun _ q _ => .indexRdC (enc := encK27) (l1 rfl) (q.t 0 rfl) (q.t 1 rfl) Tryz.underlying26 sz28 encK27_len rfl hy_18 (encK27_out _))<| .p rfl (fun _ q _ => .loadRA (out := (tW encK27 β3 β3 y_18.out.Sp y_18.out.Kd y_18.out.Lf)) (l1 rfl) (q.t 0 rfl) agg28 (le1 rfl) rfl)<| .p rfl (fun _ q _ => .call0 (bw := false) (l1 rfl) (ih (β2 := false) (β3 := β3) (β4 := β3) (R24.mk y_17.Jb y_17.Dn y_17.Mt y_17.Bo) (R27.mk y_18.out.Sp y_18.out.Kd y_18.out.Lf) hy_19) (.cons (q.t 0 rfl) (.ren rfl) (.cons (q.t 1 rfl) (.ren rfl) (.nil))) rfl)<| .p rfl (fun _ q _ => .move (l1 rfl) (q.t 0 rfl))<| .p rfl (fun _ q _ => .extract (l1 rfl) (q.t 0 rfl) rfl)<| .p rfl (fun _ q _ => .extract (l1 rfl) (q.t 0 rfl) rfl)<| .p rfl (fun _ q _ => .assign (l1 rfl) (q.t 0 rfl))<| .p rfl (fun _ q _ => .assign (l1 rfl) (q.t 0 rfl))<| .nil _) rfl rfl ?_
     refine AWP.vs ⟨[(3,.ptr 2 0),(6,rW false y_2.1 encR24),(8,iW x_15),(9,rW false y_19.1 eW),(10,bW y_19.2)],[(2,⟨28,false,(tW encK27 β3 β4 a1.Sp a1.Kd a1.Lf)⟩)]⟩ rfl rfl ?_
     refine AWP.seq ?_
     refine AWP.rg (.cons (.move (l1 rfl) (.t rfl))<| .nil _ _ _) ?_
     refine AWP.vs ⟨[(3,.ptr 2 0),(6,rW false y_2.1 encR24),(8,iW x_15),(9,rW false y_19.1 eW),(56,bW y_19.2)],[(2,⟨28,false,(tW encK27 β3 β4 a1.Sp a1.Kd a1.Lf)⟩)]⟩ rfl rfl ?_
     refine AWP.cond (.t rfl) (fun hc => ?_) (fun hc => ?_)
     ·have h := iteT hc h
      refine AWP.seq ?_
      obtain ⟨l3_20,hl3_20,h⟩ := bindS h
      refine AWP.rg (.cons (.move (l1 rfl) (.t rfl))<| .cons (.buildSlice (t := 3) (out := ([x_15] : List Int).flatMap eW) (l1 rfl) (nm rfl) (.cons (.t rfl) (by first | exact ⟨rfl,rfl⟩ | rfl) (.nil)) Tryz.underlying23 zero3 el3 (by decide) (by decide) rfl (still_all (encI_still .i64) _))<| .cons (.move (l1 rfl) (.t rfl))<| .cons (.app (enc := eW) (l1 rfl) (nm rfl) (.t rfl) (Src.rd (.t rfl) (flatMap_length (encI_len .i64) _) (one_all (encI_one .i64) _) (.inl rfl)) Tryz.underlying23 ⟨_,Tryz.underlying23,by intro k hk; cases hk⟩ el3 rfl (encI_len .i64) rfl rfl (by decide) hl3_20)<| .cons (.assign (l1 rfl) (.t rfl))<| .cons (.assign (l1 rfl) (.const _ _ _))<| .nil _ _ _) ?_
      refine AWP.ret ?_
      obtain rfl := Option.some.inj h
      refine retJ (Res.vc (s' := ⟨[(4,rW false l3_20 eW),(5,bW true)],[]⟩) (VC.trans (VC.frz (d := 4) (t := 3) rfl rfl (encI_len .i64)) (VC.sub (.of rfl) (.n _))) ?_)
      refine Res.drop (H := []) rfl ?_
      exact Res.of rfl (.cons (.tmp rfl) (.cons (.tmp rfl) (.nil))) rfl rfl
     ·have h := iteF hc h
      refine AWP.skip ?_
      obtain ⟨t8_21,ht8_21,h⟩ := letS h
      refine AWP.rg (.cons (.move (l1 rfl) (.t rfl))<| .cons (.add (l1 rfl) (.t rfl) (.const _ _ _))<| .cons (.assign (l1 rfl) (.t rfl))<| .nil _ _ _) ?_
      exact endJ t8_21 h (by subst ht8_21; exact VC.sub (.of rfl) (.of rfl))
    ·have h := iteF hc h
     refine AWP.exit ?_
     exact endJ () h (VC.sub (.n _) (.n _))
theorem c33 (n : Nat) {β2 : Bool} {β3 : Bool} {β4 : Bool} (a0 : R24) (a1 : R27) {r : ((List Int) × Bool)} (h : m33 n a0 a1 = some r) : Spec Tryz.prog 33 [] [.agg (gW false β2 a0.Jb a0.Dn a0.Mt a0.Bo),.agg (tW encK27 β3 β4 a1.Sp a1.Kd a1.Lf)] [] (.tup [rW false r.1 eW,bW r.2]) [] := c33F n n a0 a1 h
theorem c10 {β2 : Bool} {β3 : Bool} {β4 : Bool} (n : Nat) (a0 : R24) (a1 : R27) {r : ((List Int) × Int)} (h : m10 n a0 a1 = some r) : Spec Tryz.prog 10 [] [.agg (gW false β2 a0.Jb a0.Dn a0.Mt a0.Bo),.agg (tW encK27 β3 β4 a1.Sp a1.Kd a1.Lf)] [] (.tup [rW false r.1 eW,iW r.2]) [] := by
 refine Spec.of (fn := Tryz.f10) Tryz.func10 Tryz.ntmps10 rfl rfl (le1 rfl) (fun w0 Zs Zb T0 ι0 => ?_)
 unfold m10 at h
 refine AWP.seq ?_
 refine AWP.rg (.cons (.box (t := 1) (n := 4) (l1 rfl) (nm rfl) (.t rfl) (by first | exact ⟨rfl,rfl⟩ | rfl) rfl)<| .cons (.box (t := 2) (n := 3) (l1 rfl) (nm rfl) (.t rfl) (by first | exact ⟨rfl,rfl⟩ | rfl) rfl)<| .cons (.assign (l1 rfl) (.const _ _ _))<| .cons (.assign (l1 rfl) (.const _ _ _))<| .nil _ _ _) ?_
 refine AWP.vs ⟨[(2,.ptr 1 0),(3,.ptr 2 0)],[(2,⟨28,false,(tW encK27 β3 β4 a1.Sp a1.Kd a1.Lf)⟩),(1,⟨25,false,(gW false β2 a0.Jb a0.Dn a0.Mt a0.Bo)⟩)]⟩ rfl rfl ?_
 refine AWP.seq ?_
 refine AWP.seq ?_
 obtain ⟨y_1,hy_1,h⟩ := bindS h
 obtain ⟨y_2,hy_2,h⟩ := bindS h
 refine AWP.rg (.cons (.loadPA (l1 rfl) (.t rfl) agg25 rfl rfl rfl rfl)<| .cons (.call0 (bw := false) (l1 rfl) (c31 (β1 := false) (β2 := β2) n (R24.mk a0.Jb a0.Dn a0.Mt a0.Bo) hy_1) (.cons (.t rfl) (.ren rfl) (.nil)) rfl)<| .cons (.not (l1 rfl) (.t rfl))<| .cons (.move (l1 rfl) (.t rfl))<| .guard (j := 3) (dj := 11) rfl (l1 rfl) rfl (l1 rfl) (fun hg => .loadPA (l1 rfl) (.t rfl) agg28 rfl rfl rfl rfl)<| .guard (j := 3) (dj := 11) rfl (l1 rfl) rfl (l1 rfl) (fun hg => .call0 (bw := false) (l1 rfl) (c32 (β1 := β3) (β2 := β4) n (R27.mk a1.Sp a1.Kd a1.Lf) (gdB hy_2 hg)) (.cons (.gd hg (.t rfl)) (.ren rfl) (.nil)) rfl)<| .guard (j := 3) (dj := 11) rfl (l1 rfl) rfl (l1 rfl) (fun hg => .not (l1 rfl) (.gd hg (.t rfl)))<| .cons (.pickOr (l1 rfl) (.t rfl) (.const _ _ _) (.t rfl))<| .nil _ _ _) ?_
 refine AWP.vs ⟨[(2,.ptr 1 0),(3,.ptr 2 0),(15,bW ((!y_1) || (!y_2)))],[(2,⟨28,false,(tW encK27 β3 β4 a1.Sp a1.Kd a1.Lf)⟩),(1,⟨25,false,(gW false β2 a0.Jb a0.Dn a0.Mt a0.Bo)⟩)]⟩ rfl rfl ?_
 refine AWP.cond (.t rfl) (fun hc => ?_) (fun hc => ?_)
 ·have h := iteT hc h
  refine AWP.seq ?_
  refine AWP.rg (.cons (.assign (l1 rfl) (.const _ _ _))<| .cons (.assign (l1 rfl) (.const _ _ _))<| .nil _ _ _) ?_
  refine AWP.ret ?_
  obtain rfl := Option.some.inj h
  refine retJ (Res.vc (s' := ⟨[(4,rW false ([] : List Int) eW),(5,iW (1 : Int))],[]⟩) (VC.trans (VC.nilRd (d := 4) false rfl) (VC.sub (.of rfl) (.n _))) ?_)
  refine Res.drop (H := []) rfl ?_
  exact Res.of rfl (.cons (.tmp rfl) (.cons (.tmp rfl) (.nil))) rfl rfl
 ·have h := iteF hc h
  refine AWP.skip ?_
  refine AWP.seq ?_
  obtain ⟨y_3,hy_3,h⟩ := bindS h
  refine AWP.rg (.cons (.loadPA (l1 rfl) (.t rfl) agg25 rfl rfl rfl rfl)<| .cons (.loadPA (l1 rfl) (.t rfl) agg28 rfl rfl rfl rfl)<| .cons (.call0 (bw := false) (l1 rfl) (c33 (β2 := β2) (β3 := β3) (β4 := β4) n (R24.mk a0.Jb a0.Dn a0.Mt a0.Bo) (R27.mk a1.Sp a1.Kd a1.Lf) hy_3) (.cons (.t rfl) (.ren rfl) (.cons (.t rfl) (.ren rfl) (.nil))) rfl)<| .cons (.move (l1 rfl) (.t rfl))<| .cons (.extract (l1 rfl) (.t rfl) rfl)<| .cons (.extract (l1 rfl) (.t rfl) rfl)<| .cons (.assign (l1 rfl) (.t rfl))<| .cons (.assign (l1 rfl) (.t rfl))<| .nil _ _ _) ?_
  refine AWP.vs ⟨[(6,rW false y_3.1 eW),(7,bW y_3.2)],[]⟩ rfl rfl ?_
  refine AWP.seq ?_
  refine AWP.seq ?_
  refine AWP.rg (.cons (.move (l1 rfl) (.t rfl))<| .nil _ _ _) ?_
  refine AWP.vs ⟨[(6,rW false y_3.1 eW),(22,bW y_3.2)],[]⟩ rfl rfl ?_
  refine AWP.cond (.t rfl) (fun hc => ?_) (fun hc => ?_)
  ·have h := iteT hc h
   refine AWP.seq ?_
   refine AWP.rg (.cons (.move (l1 rfl) (.t rfl))<| .cons (.assign (l1 rfl) (.t rfl))<| .cons (.assign (l1 rfl) (.const _ _ _))<| .nil _ _ _) ?_
   refine AWP.ret ?_
   obtain rfl := Option.some.inj h
   refine retJ (Res.vc (s' := ⟨[(4,rW false y_3.1 eW),(5,iW (21 : Int))],[]⟩) (VC.sub (.of rfl) (.n _)) ?_)
   refine Res.drop (H := []) rfl ?_
   exact Res.of rfl (.cons (.tmp rfl) (.cons (.tmp rfl) (.nil))) rfl rfl
  ·have h := iteF hc h
   refine AWP.skip ?_
   refine AWP.seq ?_
   refine AWP.rg (.cons (.assign (l1 rfl) (.const _ _ _))<| .cons (.assign (l1 rfl) (.const _ _ _))<| .nil _ _ _) ?_
   refine AWP.ret ?_
   obtain rfl := Option.some.inj h
   refine retJ (Res.vc (s' := ⟨[(4,rW false ([] : List Int) eW),(5,iW (0 : Int))],[]⟩) (VC.trans (VC.nilRd (d := 4) false rfl) (VC.sub (.of rfl) (.n _))) ?_)
   refine Res.drop (H := []) rfl ?_
   exact Res.of rfl (.cons (.tmp rfl) (.cons (.tmp rfl) (.nil))) rfl rfl
theorem c12 {β2 : Bool} {β3 : Bool} {β4 : Bool} (n : Nat) (a0 : (List R63)) (a1 : Bool) (a2 : R44) {r : Bool} (h : m12 n a0 a1 a2 = some r) : Spec Tryz.prog 12 [] [rW false a0 e63,bW a1,.agg [rW β2 a2.Order eW,iW a2.Value,iW a2.Proof.Sp,rW β3 a2.Proof.Kd encK40,rW β4 a2.Proof.Lf eW]] [] (bW r) [] := by
 refine Spec.of (fn := Tryz.f12) Tryz.func12 Tryz.ntmps12 rfl rfl (le1 rfl) (fun w0 Zs Zb T0 ι0 => ?_)
 unfold m12 at h
 refine AWP.seq ?_
 refine AWP.rg (.cons (.box (t := 1) (n := 5) (l1 rfl) (nm rfl) (.t rfl) (by first | exact ⟨rfl,rfl⟩ | rfl) rfl)<| .cons (.assign (l1 rfl) (.const _ _ _))<| .nil _ _ _) ?_
 refine AWP.vs ⟨[(0,rW false a0 e63),(1,bW a1),(5,.ptr 1 0)],[(1,⟨45,false,[rW β2 a2.Order eW,iW a2.Value,iW a2.Proof.Sp,rW β3 a2.Proof.Kd encK40,rW β4 a2.Proof.Lf eW]⟩)]⟩ rfl rfl ?_
 refine AWP.seq ?_
 refine AWP.seq ?_
 obtain ⟨y_1,hy_1,h⟩ := bindS h
 obtain ⟨y_2,hy_2,h⟩ := bindS h
 obtain ⟨t36_3,ht36_3,h⟩ := letS h
 refine AWP.dw mixed [(0,rW false a0 e63),(1,bW a1),(5,.ptr 1 0)] [] [dO [0] 9 (rW false a0 e63),dO [2] 10 (.ptr 1 (0 + 0)),dO [4] 11 (rW β2 a2.Order eW),dO [3,5] 12 (iW y_1),dO [6] 13 (bW (!decide (y_1 = (0 : Int)))),dO [7] 14 (bW (!decide (y_1 = (0 : Int)))),dO [8,0] 15 (.gd (!(!decide (y_1 = (0 : Int)))) (rW false a0 e63)),dO [8,9] 16 (.gd (!(!decide (y_1 = (0 : Int)))) (iW (a0.length : Int))),dO [8,10] 17 (.gd (!(!decide (y_1 = (0 : Int)))) (bW (decide ((a0.length : Int) = (0 : Int))))),dO [8,11] 18 (bW ((!decide (y_1 = (0 : Int))) || (decide ((a0.length : Int) = (0 : Int))))),dO [12] 19 (bW ((!decide (y_1 = (0 : Int))) || (decide ((a0.length : Int) = (0 : Int))))),dO [13,2] 20 (.gd (!((!decide (y_1 = (0 : Int))) || (decide ((a0.length : Int) = (0 : Int))))) (.ptr 1 (0 + 0))),dO [13,14] 21 (.gd (!((!decide (y_1 = (0 : Int))) || (decide ((a0.length : Int) = (0 : Int))))) (rW β2 a2.Order eW)),dO [13,15] 22 (.gd (!((!decide (y_1 = (0 : Int))) || (decide ((a0.length : Int) = (0 : Int))))) (iW (a2.Order.length : Int))),dO [13,0] 23 (.gd (!((!decide (y_1 = (0 : Int))) || (decide ((a0.length : Int) = (0 : Int))))) (rW false a0 e63)),dO [13,17] 24 (.gd (!((!decide (y_1 = (0 : Int))) || (decide ((a0.length : Int) = (0 : Int))))) (iW (a0.length : Int))),dO [13,16,18] 25 (.gd (!((!decide (y_1 = (0 : Int))) || (decide ((a0.length : Int) = (0 : Int))))) (bW (!decide ((a2.Order.length : Int) = (a0.length : Int))))),dO [13,19] 26 (bW (((!decide (y_1 = (0 : Int))) || (decide ((a0.length : Int) = (0 : Int)))) || (!decide ((a2.Order.length : Int) = (a0.length : Int))))),dO [20] 27 (bW (((!decide (y_1 = (0 : Int))) || (decide ((a0.length : Int) = (0 : Int)))) || (!decide ((a2.Order.length : Int) = (a0.length : Int))))),dO [21,0] 28 (.gd (!(((!decide (y_1 = (0 : Int))) || (decide ((a0.length : Int) = (0 : Int)))) || (!decide ((a2.Order.length : Int) = (a0.length : Int))))) (rW false a0 e63)),dO [21,2] 29 (.gd (!(((!decide (y_1 = (0 : Int))) || (decide ((a0.length : Int) = (0 : Int)))) || (!decide ((a2.Order.length : Int) = (a0.length : Int))))) (.ptr 1 (0 + 0))),dO [21,23] 30 (.gd (!(((!decide (y_1 = (0 : Int))) || (decide ((a0.length : Int) = (0 : Int)))) || (!decide ((a2.Order.length : Int) = (a0.length : Int))))) (rW β2 a2.Order eW)),dO [21,1] 31 (.gd (!(((!decide (y_1 = (0 : Int))) || (decide ((a0.length : Int) = (0 : Int)))) || (!decide ((a2.Order.length : Int) = (a0.length : Int))))) (bW a1)),dO [21,22,24,25] 32 (.gd (!(((!decide (y_1 = (0 : Int))) || (decide ((a0.length : Int) = (0 : Int)))) || (!decide ((a2.Order.length : Int) = (a0.length : Int))))) (iW y_2)),dO [21,2] 33 (.gd (!(((!decide (y_1 = (0 : Int))) || (decide ((a0.length : Int) = (0 : Int)))) || (!decide ((a2.Order.length : Int) = (a0.length : Int))))) (.ptr 1 (0 + 1))),dO [21,27] 34 (.gd (!(((!decide (y_1 = (0 : Int))) || (decide ((a0.length : Int) = (0 : Int)))) || (!decide ((a2.Order.length : Int) = (a0.length : Int))))) (iW a2.Value)),dO [21,26,28] 35 (.gd (!(((!decide (y_1 = (0 : Int))) || (decide ((a0.length : Int) = (0 : Int)))) || (!decide ((a2.Order.length : Int) = (a0.length : Int))))) (bW (!decide (y_2 = a2.Value)))),dO [21,29] 36 (bW ((((!decide (y_1 = (0 : Int))) || (decide ((a0.length : Int) = (0 : Int)))) || (!decide ((a2.Order.length : Int) = (a0.length : Int)))) || (!decide (y_2 = a2.Value))))] [] [[(1,⟨45,false,[rW β2 a2.Order eW,iW a2.Value,iW a2.Proof.Sp,rW β3 a2.Proof.Kd encK40,rW β4 a2.Proof.Lf eW]⟩)]] [[],[],[1,2],[0,3],[0,4],[0,5],[0,6],[0,7],[0,8],[0,9],[0,10],[0,11],[0,12],[0,13],[0,11],[0,11,14,15],[0,16],[0,17],[0,18],[0,19],[0,19],[0,19,20,21],[0,19],[0,23],[0,19],[0,19,24,25],[0,26],[0,27]] [0,1,2,30] rfl rfl (by kernel_rfl) rfl (.p rfl (fun _ q _ => .move (l1 rfl) (q.t 0 rfl))<| .r rfl rfl (fun _ q => .fieldP (l1 rfl) (q.t 0 rfl) fld45_0)<| .r rfl rfl (fun _ q => .loadP (l1 rfl) (q.t 0 rfl) one23 rfl rfl rfl)<| .p rfl (fun _ q _ => .call0 (bw := false) (l1 rfl) (c34 (β1 := false) (β2 := β2) n a0 a2.Order hy_1) (.cons (q.t 0 rfl) (.ren rfl) (.cons (q.t 1 rfl) (.ren rfl) (.nil))) rfl)<| .p rfl (fun _ q _ => .neq (l1 rfl) (q.t 0 rfl) (.const _ _ _))<| .p rfl (fun _ q _ => .move (l1 rfl) (q.t 0 rfl))<| .gf rfl rfl rfl rfl rfl (fun hg _ q _ => .move (l1 rfl) (q.t 1 rfl))<| .gf rfl rfl rfl rfl rfl (fun hg _ q _ => .lenRd (l1 rfl) (.gd hg (q.t 1 rfl)) Tryz.underlying35)<| .gf rfl rfl rfl rfl rfl (fun hg _ q _ => .eql (l1 rfl) (.gd hg (q.t 1 rfl)) (.const _ _ _))<| .p rfl (fun _ q _ => .pickOr (l1 rfl) (q.t 0 rfl) (.const _ _ _) (q.t 1 rfl))<| .p rfl (fun _ q _ => .move (l1 rfl) (q.t 0 rfl))<| .rf rfl rfl rfl rfl rfl rfl (fun hg _ q => .fieldP (l1 rfl) (q.t 1 rfl) fld45_0)<| .rf rfl rfl rfl rfl rfl rfl (fun hg _ q => .loadP (l1 rfl) (.gd hg (q.t 1 rfl)) one23 rfl rfl rfl)<| .gf rfl rfl rfl rfl rfl (fun hg _ q _ => .lenRd (l1 rfl) (.gd hg (q.t 1 rfl)) Tryz.underlying23)<| .gf rfl rfl rfl rfl rfl (fun hg _ q _ => .move (l1 rfl) (q.t 1 rfl))<| .gf rfl rfl rfl rfl rfl (fun hg _ q _ => .lenRd (l1 rfl) (.gd hg (q.t 1 rfl)) Tryz.underlying35)<| .gf rfl rfl rfl rfl rfl (fun hg _ q _ => .neq (l1 rfl) (.gd hg (q.t 1 rfl)) (.gd hg (q.t 2 rfl)))<| .p rfl (fun _ q _ => .pickOr (l1 rfl) (q.t 0 rfl) (.const _ _ _) (q.t 1 rfl))<| .p rfl (fun _ q _ => .move (l1 rfl) (q.t 0 rfl))<| .gf rfl rfl rfl rfl rfl (fun hg _ q _ => .move (l1 rfl) (q.t 1 rfl))<| .rf rfl rfl rfl rfl rfl rfl (fun hg _ q => .fieldP (l1 rfl) (q.t 1 rfl) fld45_0)<| .rf rfl rfl rfl rfl rfl rfl (fun hg _ q => .loadP (l1 rfl) (.gd hg (q.t 1 rfl)) one23 rfl rfl rfl)<| .gf rfl rfl rfl rfl rfl (fun hg _ q _ => .move (l1 rfl) (q.t 1 rfl))<| .gf rfl rfl rfl rfl rfl (fun hg _ q _ => .call0 (bw := false) (l1 rfl) (c35 (β1 := false) (β2 := β2) n a0 a2.Order a1 (gdB hy_2 hg)) (.cons (.gd hg (q.t 1 rfl)) (.ren rfl) (.cons (.gd hg (q.t 2 rfl)) (.ren rfl) (.cons (.gd hg (q.t 3 rfl)) (.ren rfl) (.nil)))) rfl)<| .rf rfl rfl rfl rfl rfl rfl (fun hg _ q => .fieldP (l1 rfl) (q.t 1 rfl) fld45_1)<| .rf rfl rfl rfl rfl rfl rfl (fun hg _ q => .loadP (l1 rfl) (.gd hg (q.t 1 rfl)) one3 rfl rfl rfl)<| .gf rfl rfl rfl rfl rfl (fun hg _ q _ => .neq (l1 rfl) (.gd hg (q.t 1 rfl)) (.gd hg (q.t 2 rfl)))<| .p rfl (fun _ q _ => .pickOr (l1 rfl) (q.t 0 rfl) (.const _ _ _) (q.t 1 rfl))<| .nil _) rfl rfl ?_
 refine AWP.vc (s' := ⟨[(0,rW false a0 e63),(1,bW a1),(5,.ptr 1 0),(36,bW t36_3)],[(1,⟨45,false,[rW β2 a2.Order eW,iW a2.Value,iW a2.Proof.Sp,rW β3 a2.Proof.Kd encK40,rW β4 a2.Proof.Lf eW]⟩)]⟩) (by subst ht36_3; exact VC.sub (.of rfl) (.of rfl)) ?_
 refine AWP.cond (.t rfl) (fun hc => ?_) (fun hc => ?_)
 ·have h := iteT hc h
  refine AWP.seq ?_
  refine AWP.rg (.cons (.assign (l1 rfl) (.const _ _ _))<| .nil _ _ _) ?_
  refine AWP.ret ?_
  obtain rfl := Option.some.inj h
  refine retJ (Res.vc (s' := ⟨[(6,bW false)],[]⟩) (VC.sub (.of rfl) (.n _)) ?_)
  refine Res.drop (H := []) rfl ?_
  exact Res.of rfl (.cons (.tmp rfl) (.nil)) rfl rfl
 ·have h := iteF hc h
  refine AWP.skip ?_
  refine AWP.seq ?_
  obtain ⟨y_4,hy_4,h⟩ := bindS h
  refine AWP.rg (.cons (.move (l1 rfl) (.t rfl))<| .cons (.move (l1 rfl) (.t rfl))<| .cons (.fieldP (l1 rfl) (.t rfl) fld45_1)<| .cons (.loadP (l1 rfl) (.t rfl) one3 rfl rfl rfl)<| .cons (.buildO (offs := [(0,1),(1,1),(2,1),(3,1)]) (l1 rfl) (.cons (.t rfl) (by first | exact ⟨rfl,rfl⟩ | rfl) (.cons (.t rfl) (by first | exact ⟨rfl,rfl⟩ | rfl) (.cons (.t rfl) (by first | exact ⟨rfl,rfl⟩ | rfl) (.nil)))) zero37 offs37 rfl)<| .cons (.fieldP (l1 rfl) (.t rfl) fld45_2)<| .cons (.loadPA (l1 rfl) (.t rfl) agg41 rfl rfl rfl rfl)<| .cons (.call0 (bw := false) (l1 rfl) (c7 (β2 := false) (β3 := β3) (β4 := β4) n (R36.mk a0 ([] : List Int) a1 a2.Value) (R40.mk a2.Proof.Sp a2.Proof.Kd a2.Proof.Lf) hy_4) (.cons (.t rfl) (.agg (.cons (.ren rfl) (.cons (.nil) (.cons (.ren rfl) (.cons (.ren rfl) (.nil)))))) (.cons (.t rfl) (.ren rfl) (.nil))) rfl)<| .cons (.move (l1 rfl) (.t rfl))<| .cons (.extract (l1 rfl) (.t rfl) rfl)<| .cons (.extract (l1 rfl) (.t rfl) rfl)<| .cons (.assign (l1 rfl) (.t rfl))<| .cons (.assign (l1 rfl) (.t rfl))<| .nil _ _ _) ?_
  refine AWP.vs ⟨[(8,iW y_4.2)],[]⟩ rfl rfl ?_
  refine AWP.seq ?_
  refine AWP.rg (.cons (.move (l1 rfl) (.t rfl))<| .cons (.eql (l1 rfl) (.t rfl) (.const _ _ _))<| .cons (.assign (l1 rfl) (.t rfl))<| .nil _ _ _) ?_
  refine AWP.ret ?_
  obtain rfl := Option.some.inj h
  refine retJ (Res.vc (s' := ⟨[(6,bW (decide (y_4.2 = (0 : Int))))],[]⟩) (VC.sub (.of rfl) (.n _)) ?_)
  refine Res.drop (H := []) rfl ?_
  exact Res.of rfl (.cons (.tmp rfl) (.nil)) rfl rfl
theorem c15 {β1 : Bool} {β2 : Bool} (n : Nat) (a0 : (List R63)) (a1 : (List Int)) (a2 : Bool) {r : Int} (h : m15 n a0 a1 a2 = some r) : Spec Tryz.prog 15 [] [rW β1 a0 e63,rW β2 a1 eW,bW a2] [] (iW r) [] := by
 refine Spec.of (fn := Tryz.f15) Tryz.func15 Tryz.ntmps15 rfl rfl (le1 rfl) (fun w0 Zs Zb T0 ι0 => ?_)
 unfold m15 at h
 refine AWP.seq ?_
 refine AWP.rg (.cons (.assign (l1 rfl) (.const _ _ _))<| .nil _ _ _) ?_
 refine AWP.vs ⟨[(0,rW β1 a0 e63),(1,rW β2 a1 eW),(2,bW a2)],[]⟩ rfl rfl ?_
 refine AWP.seq ?_
 obtain ⟨y_1,hy_1,h⟩ := bindS h
 refine AWP.rg (.cons (.move (l1 rfl) (.t rfl))<| .cons (.move (l1 rfl) (.t rfl))<| .cons (.call0 (bw := false) (l1 rfl) (c37 (β1 := β1) (β2 := β2) n a0 a1 hy_1) (.cons (.t rfl) (.ren rfl) (.cons (.t rfl) (.ren rfl) (.nil))) rfl)<| .cons (.move (l1 rfl) (.t rfl))<| .cons (.extract (l1 rfl) (.t rfl) rfl)<| .cons (.extract (l1 rfl) (.t rfl) rfl)<| .cons (.assign (l1 rfl) (.t rfl))<| .cons (.assign (l1 rfl) (.t rfl))<| .nil _ _ _) ?_
 refine AWP.vs ⟨[(0,rW β1 a0 e63),(1,rW β2 a1 eW),(2,bW a2),(7,iW y_1.1)],[]⟩ rfl rfl ?_
 refine AWP.seq ?_
 refine AWP.seq ?_
 refine AWP.rg (.cons (.move (l1 rfl) (.t rfl))<| .nil _ _ _) ?_
 refine AWP.vs ⟨[(0,rW β1 a0 e63),(1,rW β2 a1 eW),(7,iW y_1.1),(15,bW a2)],[]⟩ rfl rfl ?_
 refine AWP.join' (S := fun p_3 : Int => ⟨[(7,iW p_3)],[]⟩) h (fun p_3 h => ?_) (fun k_4 h => ?_)
 ·refine AWP.seq ?_
  refine AWP.rg (.cons (.move (l1 rfl) (.t rfl))<| .cons (.assign (l1 rfl) (.t rfl))<| .nil _ _ _) ?_
  refine AWP.ret ?_
  obtain rfl := Option.some.inj h
  refine retJ (Res.vc (s' := ⟨[(6,iW p_3)],[]⟩) (VC.sub (.of rfl) (.n _)) ?_)
  refine Res.drop (H := []) rfl ?_
  exact Res.of rfl (.cons (.tmp rfl) (.nil)) rfl rfl
 ·refine AWP.cond (.t rfl) (fun hc => ?_) (fun hc => ?_)
  ·have h := iteT hc h
   obtain ⟨y_2,hy_2,h⟩ := bindS h
   refine AWP.rg (.cons (.move (l1 rfl) (.t rfl))<| .cons (.move (l1 rfl) (.t rfl))<| .cons (.call0 (bw := false) (l1 rfl) (c38 (β1 := β1) (β2 := β2) n a0 a1 hy_2) (.cons (.t rfl) (.ren rfl) (.cons (.t rfl) (.ren rfl) (.nil))) rfl)<| .cons (.move (l1 rfl) (.t rfl))<| .cons (.extract (l1 rfl) (.t rfl) rfl)<| .cons (.extract (l1 rfl) (.t rfl) rfl)<| .cons (.assign (l1 rfl) (.t rfl))<| .nil _ _ _) ?_
   exact endJ y_2.1 h (VC.sub (.of rfl) (.n _))
  ·have h := iteF hc h
   refine AWP.skip ?_
   exact endJ y_1.1 h (VC.sub (.of rfl) (.n _))
theorem c14 {β2 : Bool} {β3 : Bool} {β4 : Bool} (n : Nat) (a0 : (List R63)) (a1 : Bool) (a2 : R46) {r : Bool} (h : m14 n a0 a1 a2 = some r) : Spec Tryz.prog 14 [] [rW false a0 e63,bW a1,.agg [rW β2 a2.Order eW,iW a2.Value,iW a2.Proof.Sp,rW β3 a2.Proof.Kd encK27,rW β4 a2.Proof.Lf eW]] [] (bW r) [] := by
 refine Spec.of (fn := Tryz.f14) Tryz.func14 Tryz.ntmps14 rfl rfl (le1 rfl) (fun w0 Zs Zb T0 ι0 => ?_)
 unfold m14 at h
 refine AWP.seq ?_
 refine AWP.rg (.cons (.box (t := 1) (n := 5) (l1 rfl) (nm rfl) (.t rfl) (by first | exact ⟨rfl,rfl⟩ | rfl) rfl)<| .cons (.assign (l1 rfl) (.const _ _ _))<| .nil _ _ _) ?_
 refine AWP.vs ⟨[(0,rW false a0 e63),(1,bW a1),(5,.ptr 1 0)],[(1,⟨47,false,[rW β2 a2.Order eW,iW a2.Value,iW a2.Proof.Sp,rW β3 a2.Proof.Kd encK27,rW β4 a2.Proof.Lf eW]⟩)]⟩ rfl rfl ?_
 refine AWP.seq ?_
 refine AWP.seq ?_
 obtain ⟨y_1,hy_1,h⟩ := bindS h
 obtain ⟨y_2,hy_2,h⟩ := bindS h
 obtain ⟨y_3,hy_3,h⟩ := bindS h
 refine AWP.dw mixed [(0,rW false a0 e63),(1,bW a1),(5,.ptr 1 0)] [] [dO [0] 9 (rW false a0 e63),dO [3] 10 (bW y_1),dO [4] 11 (bW (!y_1)),dO [5] 12 (bW (!y_1)),dO [6,0] 13 (.gd (!(!y_1)) (rW false a0 e63)),dO [6,7] 14 (.gd (!(!y_1)) (iW (a0.length : Int))),dO [6,8] 15 (.gd (!(!y_1)) (bW (decide ((a0.length : Int) = (0 : Int))))),dO [6,9] 16 (bW ((!y_1) || (decide ((a0.length : Int) = (0 : Int))))),dO [10] 17 (bW ((!y_1) || (decide ((a0.length : Int) = (0 : Int))))),dO [11,2] 18 (.gd (!((!y_1) || (decide ((a0.length : Int) = (0 : Int))))) (.ptr 1 (0 + 0))),dO [11,12] 19 (.gd (!((!y_1) || (decide ((a0.length : Int) = (0 : Int))))) (rW β2 a2.Order eW)),dO [11,13] 20 (.gd (!((!y_1) || (decide ((a0.length : Int) = (0 : Int))))) (iW (a2.Order.length : Int))),dO [11,0] 21 (.gd (!((!y_1) || (decide ((a0.length : Int) = (0 : Int))))) (rW false a0 e63)),dO [11,15] 22 (.gd (!((!y_1) || (decide ((a0.length : Int) = (0 : Int))))) (iW (a0.length : Int))),dO [11,14,16] 23 (.gd (!((!y_1) || (decide ((a0.length : Int) = (0 : Int))))) (bW (!decide ((a2.Order.length : Int) = (a0.length : Int))))),dO [11,17] 24 (bW (((!y_1) || (decide ((a0.length : Int) = (0 : Int)))) || (!decide ((a2.Order.length : Int) = (a0.length : Int))))),dO [18] 25 (bW (((!y_1) || (decide ((a0.length : Int) = (0 : Int)))) || (!decide ((a2.Order.length : Int) = (a0.length : Int))))),dO [19,0] 26 (.gd (!(((!y_1) || (decide ((a0.length : Int) = (0 : Int)))) || (!decide ((a2.Order.length : Int) = (a0.length : Int))))) (rW false a0 e63)),dO [19,2] 27 (.gd (!(((!y_1) || (decide ((a0.length : Int) = (0 : Int)))) || (!decide ((a2.Order.length : Int) = (a0.length : Int))))) (.ptr 1 (0 + 0))),dO [19,21] 28 (.gd (!(((!y_1) || (decide ((a0.length : Int) = (0 : Int)))) || (!decide ((a2.Order.length : Int) = (a0.length : Int))))) (rW β2 a2.Order eW)),dO [19,20,22] 29 (.gd (!(((!y_1) || (decide ((a0.length : Int) = (0 : Int)))) || (!decide ((a2.Order.length : Int) = (a0.length : Int))))) (bW y_2)),dO [19,23] 30 (.gd (!(((!y_1) || (decide ((a0.length : Int) = (0 : Int)))) || (!decide ((a2.Order.length : Int) = (a0.length : Int))))) (bW (!y_2))),dO [19,24] 31 (bW ((((!y_1) || (decide ((a0.length : Int) = (0 : Int)))) || (!decide ((a2.Order.length : Int) = (a0.length : Int)))) || (!y_2))),dO [25] 32 (bW ((((!y_1) || (decide ((a0.length : Int) = (0 : Int)))) || (!decide ((a2.Order.length : Int) = (a0.length : Int)))) || (!y_2))),dO [26,0] 33 (.gd (!((((!y_1) || (decide ((a0.length : Int) = (0 : Int)))) || (!decide ((a2.Order.length : Int) = (a0.length : Int)))) || (!y_2))) (rW false a0 e63)),dO [26,2] 34 (.gd (!((((!y_1) || (decide ((a0.length : Int) = (0 : Int)))) || (!decide ((a2.Order.length : Int) = (a0.length : Int)))) || (!y_2))) (.ptr 1 (0 + 0))),dO [26,28] 35 (.gd (!((((!y_1) || (decide ((a0.length : Int) = (0 : Int)))) || (!decide ((a2.Order.length : Int) = (a0.length : Int)))) || (!y_2))) (rW β2 a2.Order eW)),dO [26,1] 36 (.gd (!((((!y_1) || (decide ((a0.length : Int) = (0 : Int)))) || (!decide ((a2.Order.length : Int) = (a0.length : Int)))) || (!y_2))) (bW a1)),dO [26,27,29,30] 37 (.gd (!((((!y_1) || (decide ((a0.length : Int) = (0 : Int)))) || (!decide ((a2.Order.length : Int) = (a0.length : Int)))) || (!y_2))) (iW y_3)),dO [26,2] 38 (.gd (!((((!y_1) || (decide ((a0.length : Int) = (0 : Int)))) || (!decide ((a2.Order.length : Int) = (a0.length : Int)))) || (!y_2))) (.ptr 1 (0 + 1))),dO [26,32] 39 (.gd (!((((!y_1) || (decide ((a0.length : Int) = (0 : Int)))) || (!decide ((a2.Order.length : Int) = (a0.length : Int)))) || (!y_2))) (iW a2.Value)),dO [26,31,33] 40 (.gd (!((((!y_1) || (decide ((a0.length : Int) = (0 : Int)))) || (!decide ((a2.Order.length : Int) = (a0.length : Int)))) || (!y_2))) (bW (!decide (y_3 = a2.Value)))),dO [26,34] 41 (bW (((((!y_1) || (decide ((a0.length : Int) = (0 : Int)))) || (!decide ((a2.Order.length : Int) = (a0.length : Int)))) || (!y_2)) || (!decide (y_3 = a2.Value))))] [] [[(1,⟨47,false,[rW β2 a2.Order eW,iW a2.Value,iW a2.Proof.Sp,rW β3 a2.Proof.Kd encK27,rW β4 a2.Proof.Lf eW]⟩)]] [[],[0,1],[0,2],[0,3],[0,4],[0,5],[0,6],[0,7],[0,8],[0,9],[0,10],[0,11],[0,9],[0,9,12,13],[0,14],[0,15],[0,16],[0,17],[0,17],[0,17,18,19],[0,20],[0,21],[0,22],[0,23],[0,24],[0,24],[0,24,25,26],[0,24],[0,28],[0,24],[0,24,29,30],[0,31],[0,32]] [0,1,2,35] rfl rfl (by kernel_rfl) rfl (.p rfl (fun _ q _ => .move (l1 rfl) (q.t 0 rfl))<| .p rfl (fun _ q _ => .call0 (bw := false) (l1 rfl) (c19 (β1 := false) n a0 hy_1) (.cons (q.t 0 rfl) (.ren rfl) (.nil)) rfl)<| .p rfl (fun _ q _ => .not (l1 rfl) (q.t 0 rfl))<| .p rfl (fun _ q _ => .move (l1 rfl) (q.t 0 rfl))<| .gf rfl rfl rfl rfl rfl (fun hg _ q _ => .move (l1 rfl) (q.t 1 rfl))<| .gf rfl rfl rfl rfl rfl (fun hg _ q _ => .lenRd (l1 rfl) (.gd hg (q.t 1 rfl)) Tryz.underlying22)<| .gf rfl rfl rfl rfl rfl (fun hg _ q _ => .eql (l1 rfl) (.gd hg (q.t 1 rfl)) (.const _ _ _))<| .p rfl (fun _ q _ => .pickOr (l1 rfl) (q.t 0 rfl) (.const _ _ _) (q.t 1 rfl))<| .p rfl (fun _ q _ => .move (l1 rfl) (q.t 0 rfl))<| .rf rfl rfl rfl rfl rfl rfl (fun hg _ q => .fieldP (l1 rfl) (q.t 1 rfl) fld47_0)<| .rf rfl rfl rfl rfl rfl rfl (fun hg _ q => .loadP (l1 rfl) (.gd hg (q.t 1 rfl)) one23 rfl rfl rfl)<| .gf rfl rfl rfl rfl rfl (fun hg _ q _ => .lenRd (l1 rfl) (.gd hg (q.t 1 rfl)) Tryz.underlying23)<| .gf rfl rfl rfl rfl rfl (fun hg _ q _ => .move (l1 rfl) (q.t 1 rfl))<| .gf rfl rfl rfl rfl rfl (fun hg _ q _ => .lenRd (l1 rfl) (.gd hg (q.t 1 rfl)) Tryz.underlying22)<| .gf rfl rfl rfl rfl rfl (fun hg _ q _ => .neq (l1 rfl) (.gd hg (q.t 1 rfl)) (.gd hg (q.t 2 rfl)))<| .p rfl (fun _ q _ => .pickOr (l1 rfl) (q.t 0 rfl) (.const _ _ _) (q.t 1 rfl))<| .p rfl (fun _ q _ => .move (l1 rfl) (q.t 0 rfl))<| .gf rfl rfl rfl rfl rfl (fun hg _ q _ => .move (l1 rfl) (q.t 1 rfl))<| .rf rfl rfl rfl rfl rfl rfl (fun hg _ q => .fieldP (l1 rfl) (q.t 1 rfl) fld47_0)<| .rf rfl rfl rfl rfl rfl rfl (fun hg _ q => .loadP (l1 rfl) (.gd hg (q.t 1 rfl)) one23 rfl rfl rfl)<| .gf rfl rfl rfl rfl rfl (fun hg _ q _ => .call0 (bw := false) (l1 rfl) (c36 (β1 := false) (β2 := β2) n a0 a2.Order (gdB hy_2 hg)) (.cons (.gd hg (q.t 1 rfl)) (.ren rfl) (.cons (.gd hg (q.t 2 rfl)) (.ren rfl) (.nil))) rfl)<| .gf rfl rfl rfl rfl rfl (fun hg _ q _ => .not (l1 rfl) (.gd hg (q.t 1 rfl)))<| .p rfl (fun _ q _ => .pickOr (l1 rfl) (q.t 0 rfl) (.const _ _ _) (q.t 1 rfl))<| .p rfl (fun _ q _ => .move (l1 rfl) (q.t 0 rfl))<| .gf rfl rfl rfl rfl rfl (fun hg _ q _ => .move (l1 rfl) (q.t 1 rfl))<| .rf rfl rfl rfl rfl rfl rfl (fun hg _ q => .fieldP (l1 rfl) (q.t 1 rfl) fld47_0)<| .rf rfl rfl rfl rfl rfl rfl (fun hg _ q => .loadP (l1 rfl) (.gd hg (q.t 1 rfl)) one23 rfl rfl rfl)<| .gf rfl rfl rfl rfl rfl (fun hg _ q _ => .move (l1 rfl) (q.t 1 rfl))<| .gf rfl rfl rfl rfl rfl (fun hg _ q _ => .call0 (bw := false) (l1 rfl) (c15 (β1 := false) (β2 := β2) n a0 a2.Order a1 (gdB hy_3 hg)) (.cons (.gd hg (q.t 1 rfl)) (.ren rfl) (.cons (.gd hg (q.t 2 rfl)) (.ren rfl) (.cons (.gd hg (q.t 3 rfl)) (.ren rfl) (.nil)))) rfl)<| .rf rfl rfl rfl rfl rfl rfl (fun hg _ q => .fieldP (l1 rfl) (q.t 1 rfl) fld47_1)<| .rf rfl rfl rfl rfl rfl rfl (fun hg _ q => .loadP (l1 rfl) (.gd hg (q.t 1 rfl)) one3 rfl rfl rfl)<| .gf rfl rfl rfl rfl rfl (fun hg _ q _ => .neq (l1 rfl) (.gd hg (q.t 1 rfl)) (.gd hg (q.t 2 rfl)))<| .p rfl (fun _ q _ => .pickOr (l1 rfl) (q.t 0 rfl) (.const _ _ _) (q.t 1 rfl))<| .nil _) rfl rfl ?_
 refine AWP.vs ⟨[(0,rW false a0 e63),(1,bW a1),(5,.ptr 1 0),(41,bW (((((!y_1) || (decide ((a0.length : Int) = (0 : Int)))) || (!decide ((a2.Order.length : Int) = (a0.length : Int)))) || (!y_2)) || (!decide (y_3 = a2.Value))))],[(1,⟨47,false,[rW β2 a2.Order eW,iW a2.Value,iW a2.Proof.Sp,rW β3 a2.Proof.Kd encK27,rW β4 a2.Proof.Lf eW]⟩)]⟩ rfl rfl ?_
 refine AWP.cond (.t rfl) (fun hc => ?_) (fun hc => ?_)
 ·have h := iteT hc h
  refine AWP.seq ?_
  refine AWP.rg (.cons (.assign (l1 rfl) (.const _ _ _))<| .nil _ _ _) ?_
  refine AWP.ret ?_
  obtain rfl := Option.some.inj h
  refine retJ (Res.vc (s' := ⟨[(6,bW false)],[]⟩) (VC.sub (.of rfl) (.n _)) ?_)
  refine Res.drop (H := []) rfl ?_
  exact Res.of rfl (.cons (.tmp rfl) (.nil)) rfl rfl
 ·have h := iteF hc h
  refine AWP.skip ?_
  refine AWP.seq ?_
  obtain ⟨y_4,hy_4,h⟩ := bindS h
  refine AWP.rg (.cons (.move (l1 rfl) (.t rfl))<| .cons (.move (l1 rfl) (.t rfl))<| .cons (.fieldP (l1 rfl) (.t rfl) fld47_1)<| .cons (.loadP (l1 rfl) (.t rfl) one3 rfl rfl rfl)<| .cons (.buildO (offs := [(0,1),(1,1),(2,1),(3,1)]) (l1 rfl) (.cons (.t rfl) (by first | exact ⟨rfl,rfl⟩ | rfl) (.cons (.const _ _ _) (by first | exact ⟨rfl,rfl⟩ | rfl) (.cons (.t rfl) (by first | exact ⟨rfl,rfl⟩ | rfl) (.cons (.t rfl) (by first | exact ⟨rfl,rfl⟩ | rfl) (.nil))))) zero25 offs25 rfl)<| .cons (.fieldP (l1 rfl) (.t rfl) fld47_2)<| .cons (.loadPA (l1 rfl) (.t rfl) agg28 rfl rfl rfl rfl)<| .cons (.call0 (bw := false) (l1 rfl) (c10 (β2 := false) (β3 := β3) (β4 := β4) n (R24.mk a0 ([] : List Int) a1 a2.Value) (R27.mk a2.Proof.Sp a2.Proof.Kd a2.Proof.Lf) hy_4) (.cons (.t rfl) (.agg (.cons (.ren rfl) (.cons (.nil) (.cons (.ren rfl) (.cons (.ren rfl) (.nil)))))) (.cons (.t rfl) (.ren rfl) (.nil))) rfl)<| .cons (.move (l1 rfl) (.t rfl))<| .cons (.extract (l1 rfl) (.t rfl) rfl)<| .cons (.extract (l1 rfl) (.t rfl) rfl)<| .cons (.assign (l1 rfl) (.t rfl))<| .cons (.assign (l1 rfl) (.t rfl))<| .nil _ _ _) ?_
  refine AWP.vs ⟨[(8,iW y_4.2)],[]⟩ rfl rfl ?_
  refine AWP.seq ?_
  refine AWP.rg (.cons (.move (l1 rfl) (.t rfl))<| .cons (.eql (l1 rfl) (.t rfl) (.const _ _ _))<| .cons (.assign (l1 rfl) (.t rfl))<| .nil _ _ _) ?_
  refine AWP.ret ?_
  obtain rfl := Option.some.inj h
  refine retJ (Res.vc (s' := ⟨[(6,bW (decide (y_4.2 = (0 : Int))))],[]⟩) (VC.sub (.of rfl) (.n _)) ?_)
  refine Res.drop (H := []) rfl ?_
  exact Res.of rfl (.cons (.tmp rfl) (.nil)) rfl rfl
end Go.AB
