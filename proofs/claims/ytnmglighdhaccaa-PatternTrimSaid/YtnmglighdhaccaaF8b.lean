import Derived.Test.YtnmglighdhaccaaProg
import Derived.Test.YtnmglighdhaccaaF8a
import Derived.KernelRfl
set_option linter.unusedVariables false
set_option maxRecDepth 20000
namespace Go.AB
open Go Go.Proofs
theorem c76F (n : Nat) : ∀ (f : Nat) (a0_b : (List R56)) (a1 : Int) (a2 : Int) (a3 : Int) {r : (List R56)},m76F n f a0_b a1 a2 a3 = some r → Spec Try.prog 76 [1] [.own 1 2 0 a0_b.length,iW a1,iW a2,iW a3,.clo (.func 57) [] []] [(1,⟨57,true,a0_b.flatMap encR56⟩)] (.tup []) [(1,⟨57,true,r.flatMap encR56⟩)] := by
 intro f
 induction f with
 | zero =>
  intro a0_b a1 a2 a3 r h
  cases (show (none : Option (List R56)) = some r from h)
 | succ f ih =>
 intro a0_b a1 a2 a3 r h
 replace h : m76B n (m76F n f) a0_b a1 a2 a3 = some r := h
 generalize m76F n f = rc_0 at h ih
 refine Spec.of (fn := Try.f76) Try.func76 Try.ntmps76 rfl rfl (le1 rfl) (fun w0 Zs Zb T0 ι0 => ?_)
 unfold m76B at h
 refine AWP.seq ?_
 refine AWP.seq ?_
 refine AWP.region (.cons (.move (lt1 rfl) (.t rfl))<| .cons (.move (lt1 rfl) (.t rfl))<| .cons (.sub (lt1 rfl) (.t rfl) (.t rfl))<| .cons (.eql (lt1 rfl) (.t rfl) (.const _ _ _))<| ARun.nil _ _ _) ?_
 refine AWP.vc (s' := ⟨[(0,.own 1 2 0 a0_b.length),(1,iW a1),(2,iW a2),(3,iW a3),(4,.clo (.func 57) [] []),(28,bW (decide ((IntKind.wrap .i64 (a2 - a1)) = (1 : Int))))],[(1,⟨57,true,a0_b.flatMap encR56⟩)]⟩) (VC.sub (.of rfl) (.of rfl)) ?_
 refine AWP.cond (.t rfl) (fun hc => ?_) (fun hc => ?_)
 ·have h := iteT hc h
  refine AWP.seq ?_
  refine AWP.region (.cons (.move (lt1 rfl) (.t rfl))<| .cons (.assign (lt1 rfl) (.t rfl))<| ARun.nil _ _ _) ?_
  refine AWP.vc (s' := ⟨[(0,.own 1 2 0 a0_b.length),(1,iW a1),(3,iW a3),(4,.clo (.func 57) [] []),(10,iW a2)],[(1,⟨57,true,a0_b.flatMap encR56⟩)]⟩) (VC.sub (.of rfl) (.of rfl)) ?_
  refine AWP.seq ?_
  refine AWP.region (.cons (.move (lt1 rfl) (.t rfl))<| .cons (.assign (lt1 rfl) (.t rfl))<| ARun.nil _ _ _) ?_
  refine AWP.vc (s' := ⟨[(0,.own 1 2 0 a0_b.length),(1,iW a1),(4,.clo (.func 57) [] []),(10,iW a2),(11,iW a3)],[(1,⟨57,true,a0_b.flatMap encR56⟩)]⟩) (VC.sub (.of rfl) (.of rfl)) ?_
  refine AWP.seq ?_
  refine AWP.joinB' (S := fun p_26 : Int => ⟨[(0,.own 1 2 0 a0_b.length),(1,iW a1),(10,iW p_26)],[(1,⟨57,true,a0_b.flatMap encR56⟩)]⟩) h (fun p_26 h => ?_) (fun k_27 h => ?_)
  ·refine AWP.seq ?_
   refine AWP.seq ?_
   refine AWP.region (.cons (.move (lt1 rfl) (.t rfl))<| .cons (.assign (lt1 rfl) (.t rfl))<| ARun.nil _ _ _) ?_
   refine AWP.vc (s' := ⟨[(0,.own 1 2 0 a0_b.length),(10,iW p_26),(13,iW a1)],[(1,⟨57,true,a0_b.flatMap encR56⟩)]⟩) (VC.sub (.of rfl) (.of rfl)) ?_
   refine AWP.joinB' (S := fun p_53 : (List R56) => ⟨[],[(1,⟨57,true,p_53.flatMap encR56⟩)]⟩) h (fun p_53 h => ?_) (fun k_54 h => ?_)
   ·refine AWP.ret ?_
    obtain rfl := Option.some.inj h
    refine retJ (Res.vc (s' := ⟨[],[(1,⟨57,true,p_53.flatMap encR56⟩)]⟩) (VC.sub (.n _) (.of rfl)) ?_)
    refine Res.sub (H := [(1,⟨57,true,p_53.flatMap encR56⟩)]) (.of rfl) ?_
    exact Res.of rfl (.nil) rfl rfl
   ·refine AWP.vc (s' := ⟨[(0,.own 1 2 0 a0_b.length),(10,iW p_26),(13,iW a1)],[(1,⟨57,true,a0_b.flatMap encR56⟩)]⟩) (VC.sub (.of rfl) (.of rfl)) ?_
    refine AWP.loopM (S := fun x_44 : Int × (List R56) => ⟨[(0,.own 1 2 0 x_44.2.length),(10,iW p_26),(13,iW x_44.1)],[(1,⟨57,true,x_44.2.flatMap encR56⟩)]⟩) (x := (a1,a0_b)) (fun nx_45 x_44 h => ?_) h
    unfold m76_L2 at h
    refine AWP.seq ?_
    refine AWP.seq ?_
    refine AWP.region (.cons (.move (lt1 rfl) (.t rfl))<| .cons (.move (lt1 rfl) (.t rfl))<| .cons (.sub (lt1 rfl) (.t rfl) (.const _ _ _))<| .cons (.lss (lt1 rfl) (.t rfl) (.t rfl))<| ARun.nil _ _ _) ?_
    refine AWP.vc (s' := ⟨[(0,.own 1 2 0 x_44.2.length),(10,iW p_26),(13,iW x_44.1),(58,bW (decide (x_44.1 < (IntKind.wrap .i64 (p_26 - (1 : Int))))))],[(1,⟨57,true,x_44.2.flatMap encR56⟩)]⟩) (VC.sub (.of rfl) (.of rfl)) ?_
    refine AWP.cond (.t rfl) (fun hc => ?_) (fun hc => ?_)
    ·have h := iteT hc h
     refine AWP.skip ?_
     refine AWP.seq ?_
     refine AWP.block ?_
     obtain ⟨y_46,hy_46,h⟩ := bindS h
     obtain ⟨y_47,hy_47,h⟩ := bindS h
     obtain ⟨y_48,hy_48,h⟩ := bindS h
     obtain ⟨l1_49,hl1_49,h⟩ := bindS h
     obtain ⟨y_50,hy_50,h⟩ := bindS h
     obtain ⟨l1_51,hl1_51,h⟩ := bindS h
     refine AWP.draw (s' := ⟨[(0,.own 1 2 0 x_44.2.length),(10,iW p_26),(13,iW x_44.1)],[(1,⟨57,true,l1_51.flatMap encR56⟩)]⟩) mixed [⟨0,.own 1 2 0 x_44.2.length,none,[]⟩,⟨10,iW p_26,none,[]⟩,⟨13,iW x_44.1,none,[]⟩,⟨58,bW (decide (x_44.1 < (IntKind.wrap .i64 (p_26 - (1 : Int))))),none,[]⟩,⟨61,.own 1 2 0 x_44.2.length,some 0,[]⟩,⟨62,iW x_44.1,some 1,[]⟩,⟨63,.own 1 2 0 x_44.2.length,some 2,[]⟩,⟨64,iW x_44.1,some 3,[]⟩,⟨65,iW (IntKind.wrap .i64 (x_44.1 + (1 : Int))),some 4,[]⟩,⟨66,.own 1 2 0 x_44.2.length,some 5,[]⟩,⟨67,iW x_44.1,some 6,[]⟩,⟨68,iW (IntKind.wrap .i64 (x_44.1 + (1 : Int))),some 7,[]⟩,⟨69,.ptr 1 (0 + ((IntKind.wrap .i64 (x_44.1 + (1 : Int)))).toNat * 2),some 8,[]⟩,⟨70,.agg [rW false y_46.Pattern eW,iW y_46.Count],some 9,[]⟩,⟨71,.own 1 2 0 x_44.2.length,some 10,[]⟩,⟨72,iW x_44.1,some 11,[]⟩,⟨73,.ptr 1 (0 + (x_44.1).toNat * 2),some 12,[]⟩,⟨74,.agg [rW false y_47.Pattern eW,iW y_47.Count],some 13,[]⟩,⟨75,.ptr 1 (0 + (x_44.1).toNat * 2),some 14,[]⟩,⟨76,.ptr 1 (0 + ((IntKind.wrap .i64 (x_44.1 + (1 : Int)))).toNat * 2),some 16,[]⟩] [⟨[0],0,0,some (61,.own 1 2 0 x_44.2.length),[]⟩,⟨[2],0,2,some (62,iW x_44.1),[]⟩,⟨[0],0,1,some (63,.own 1 2 0 x_44.2.length),[]⟩,⟨[2],0,2,some (64,iW x_44.1),[]⟩,⟨[7],0,2,some (65,iW (IntKind.wrap .i64 (x_44.1 + (1 : Int)))),[]⟩,⟨[0],0,0,some (66,.own 1 2 0 x_44.2.length),[]⟩,⟨[2],0,2,some (67,iW x_44.1),[]⟩,⟨[10],0,2,some (68,iW (IntKind.wrap .i64 (x_44.1 + (1 : Int)))),[]⟩,⟨[9,11],0,0,some (69,.ptr 1 (0 + ((IntKind.wrap .i64 (x_44.1 + (1 : Int)))).toNat * 2)),[]⟩,⟨[12],0,0,some (70,.agg [rW false y_46.Pattern eW,iW y_46.Count]),[]⟩,⟨[0],0,0,some (71,.own 1 2 0 x_44.2.length),[]⟩,⟨[2],0,2,some (72,iW x_44.1),[]⟩,⟨[14,15],0,0,some (73,.ptr 1 (0 + (x_44.1).toNat * 2)),[]⟩,⟨[16],0,0,some (74,.agg [rW false y_47.Pattern eW,iW y_47.Count]),[]⟩,⟨[4,5],0,0,some (75,.ptr 1 (0 + (x_44.1).toNat * 2)),[]⟩,⟨[18,13],0,0,none,[]⟩,⟨[6,8],1,1,some (76,.ptr 1 (0 + ((IntKind.wrap .i64 (x_44.1 + (1 : Int)))).toNat * 2)),[]⟩,⟨[19,17],1,1,none,[]⟩] [15,17] [[(1,⟨57,true,x_44.2.flatMap encR56⟩)],[(1,⟨57,true,l1_49.flatMap encR56⟩)],[(1,⟨57,true,l1_51.flatMap encR56⟩)]] [[],[],[],[],[3],[],[],[6],[5,6,7],[5,6,7,8],[],[],[10,11],[10,11,12],[0,1,5,6,7,8,9,10,11,12,13],[0,1,5,6,7,8,9,10,11,12,13,14],[0,1,2,3,4,5,6,7,8,9,10,11,12,13,14,15],[0,1,2,3,4,5,6,7,8,9,10,11,12,13,14,15,16]] (by kernel_rfl) (by kernel_rfl) (BornL.ok (.o<| .o<| .o<| .o<| .b rfl rfl<| .b rfl rfl<| .b rfl rfl<| .b rfl rfl<| .b rfl rfl<| .b rfl rfl<| .b rfl rfl<| .b rfl rfl<| .b rfl rfl<| .b rfl rfl<| .b rfl rfl<| .b rfl rfl<| .b rfl rfl<| .b rfl rfl<| .b rfl rfl<| .b rfl rfl<| .n)) (BaseL.ok (.o rfl<| .o rfl<| .o rfl<| .o rfl<| .b<| .b<| .b<| .b<| .b<| .b<| .b<| .b<| .b<| .b<| .b<| .b<| .b<| .b<| .b<| .b<| .n)) rfl (by decide) (allLt rfl) (.read rfl (.c (.put (fun E hE => .move (lt1 rfl) (.tmp (hE.at (k := 0) rfl)))) (.n))<| .pure rfl (fun H => .put (fun E hE => .move (lt1 rfl) (.tmp (hE.at (k := 0) rfl))))<| .read rfl (.c (.put (fun E hE => .move (lt1 rfl) (.tmp (hE.at (k := 0) rfl)))) (.c (.put (fun E hE => .move (lt1 rfl) (.tmp (hE.at (k := 0) rfl)))) (.n)))<| .pure rfl (fun H => .put (fun E hE => .move (lt1 rfl) (.tmp (hE.at (k := 0) rfl))))<| .pure rfl (fun H => .put (fun E hE => .add (lt1 rfl) (.tmp (hE.at (k := 0) rfl)) (.const _ _ _)))<| .read rfl (.c (.put (fun E hE => .move (lt1 rfl) (.tmp (hE.at (k := 0) rfl)))) (.n))<| .pure rfl (fun H => .put (fun E hE => .move (lt1 rfl) (.tmp (hE.at (k := 0) rfl))))<| .pure rfl (fun H => .put (fun E hE => .add (lt1 rfl) (.tmp (hE.at (k := 0) rfl)) (.const _ _ _)))<| .read rfl (.c (.put (fun E hE => .idxOwn (lt1 rfl) (.tmp (hE.at (k := 0) rfl)) (.tmp (hE.at (k := 1) rfl)) Try.underlying52 sz57 rfl hy_46)) (.n))<| .read rfl (.c (.put (fun E hE => .loadPA (lt1 rfl) (.tmp (hE.at (k := 0) rfl)) agg57 rfl (cells_at encR56_len hy_46) rfl rfl)) (.n))<| .read rfl (.c (.put (fun E hE => .move (lt1 rfl) (.tmp (hE.at (k := 0) rfl)))) (.n))<| .pure rfl (fun H => .put (fun E hE => .move (lt1 rfl) (.tmp (hE.at (k := 0) rfl))))<| .read rfl (.c (.put (fun E hE => .idxOwn (lt1 rfl) (.tmp (hE.at (k := 0) rfl)) (.tmp (hE.at (k := 1) rfl)) Try.underlying52 sz57 rfl hy_47)) (.n))<| .read rfl (.c (.put (fun E hE => .loadPA (lt1 rfl) (.tmp (hE.at (k := 0) rfl)) agg57 rfl (cells_at encR56_len hy_47) rfl rfl)) (.n))<| .read rfl (.c (.put (fun E hE => .idxOwn (lt1 rfl) (.tmp (hE.at (k := 0) rfl)) (.tmp (hE.at (k := 1) rfl)) Try.underlying52 sz57 rfl hy_48)) (.n))<| .turn rfl rfl rfl rfl rfl (.store (fun E hE => .storePA (.tmp (hE.at (k := 0) rfl)) (.tmp (hE.at (k := 1) rfl)) sz57 rfl rfl (le_at encR56_len hy_48) (one_lit rfl) (fun _ => still_lit rfl) (splL_at encR56_len hy_48 hl1_49)) rfl)<| .read rfl (.c (.put (fun E hE => .idxOwn (lt1 rfl) (.ownN (Eq.symm (setLen hl1_49)) (.tmp (hE.at (k := 0) rfl))) (.tmp (hE.at (k := 1) rfl)) Try.underlying52 sz57 rfl hy_50)) (.n))<| .turn rfl rfl rfl rfl rfl (.store (fun E hE => .storePA (.tmp (hE.at (k := 0) rfl)) (.tmp (hE.at (k := 1) rfl)) sz57 rfl rfl (le_at encR56_len hy_50) (one_lit rfl) (fun _ => still_lit rfl) (splL_at encR56_len hy_50 hl1_51)) rfl)<| .nil _) (fun E hE => .c (DInv.at hE (k := 0) rfl rfl rfl)<| .c (DInv.at hE (k := 1) rfl rfl rfl)<| .c (DInv.at hE (k := 2) rfl rfl rfl)<| .n _) rfl ?_
     refine AWP.vc (s' := ⟨[(0,.own 1 2 0 l1_51.length),(10,iW p_26),(13,iW x_44.1)],[(1,⟨57,true,l1_51.flatMap encR56⟩)]⟩) (VC.sub (.c (lenC (Eq.symm (Eq.trans (setLen hl1_51) (setLen hl1_49))) rfl)<| .c rfl<| .c rfl<| .n _) (.of rfl)) ?_
     obtain ⟨t13_52,ht13_52,h⟩ := letS h
     refine AWP.region (.cons (.move (lt1 rfl) (.t rfl))<| .cons (.add (lt1 rfl) (.t rfl) (.const _ _ _))<| .cons (.assign (lt1 rfl) (.t rfl))<| ARun.nil _ _ _) ?_
     exact endJ (t13_52,l1_51) h (by subst ht13_52; exact VC.sub (.of rfl) (.of rfl))
    ·have h := iteF hc h
     refine AWP.exit ?_
     exact endJ x_44.2 h (VC.sub (.n _) (.of rfl))
  ·refine AWP.vc (s' := ⟨[(0,.own 1 2 0 a0_b.length),(1,iW a1),(4,.clo (.func 57) [] []),(10,iW a2),(11,iW a3)],[(1,⟨57,true,a0_b.flatMap encR56⟩)]⟩) (VC.sub (.of rfl) (.of rfl)) ?_
   refine AWP.loopM (S := fun x_17 : Int × Int => ⟨[(0,.own 1 2 0 a0_b.length),(1,iW a1),(4,.clo (.func 57) [] []),(10,iW x_17.1),(11,iW x_17.2)],[(1,⟨57,true,a0_b.flatMap encR56⟩)]⟩) (x := (a2,a3)) (fun nx_18 x_17 h => ?_) h
   unfold m76_L1 at h
   refine AWP.seq ?_
   refine AWP.seq ?_
   refine AWP.region (.cons (.move (lt1 rfl) (.t rfl))<| .cons (.move (lt1 rfl) (.t rfl))<| .cons (.lss (lt1 rfl) (.t rfl) (.t rfl))<| ARun.nil _ _ _) ?_
   refine AWP.vc (s' := ⟨[(0,.own 1 2 0 a0_b.length),(1,iW a1),(4,.clo (.func 57) [] []),(10,iW x_17.1),(11,iW x_17.2),(33,bW (decide (x_17.1 < x_17.2)))],[(1,⟨57,true,a0_b.flatMap encR56⟩)]⟩) (VC.sub (.of rfl) (.of rfl)) ?_
   refine AWP.cond (.t rfl) (fun hc => ?_) (fun hc => ?_)
   ·have h := iteT hc h
    refine AWP.skip ?_
    refine AWP.block ?_
    refine AWP.seq ?_
    obtain ⟨t12_19,ht12_19,h⟩ := letS h
    refine AWP.region (.cons (.move (lt1 rfl) (.t rfl))<| .cons (.move (lt1 rfl) (.t rfl))<| .cons (.add (lt1 rfl) (.t rfl) (.t rfl))<| .cons (.conv (lt1 rfl) (.t rfl) Try.underlying3 Try.underlying105)<| .cons (.shr (lt1 rfl) (.t rfl) (.const _ _ _) (by decide))<| .cons (.conv (lt1 rfl) (.t rfl) Try.underlying105 Try.underlying3)<| .cons (.assign (lt1 rfl) (.t rfl))<| ARun.nil _ _ _) ?_
    refine AWP.vc (s' := ⟨[(0,.own 1 2 0 a0_b.length),(1,iW a1),(4,.clo (.func 57) [] []),(10,iW x_17.1),(11,iW x_17.2),(12,iW t12_19)],[(1,⟨57,true,a0_b.flatMap encR56⟩)]⟩) (by subst ht12_19; exact VC.sub (.of rfl) (.of rfl)) ?_
    refine AWP.seq ?_
    obtain ⟨y_20,hy_20,h⟩ := bindS h
    obtain ⟨y_21,hy_21,h⟩ := bindS h
    obtain ⟨y_22,hy_22,h⟩ := bindS h
    refine AWP.draw (s' := ⟨[(0,.own 1 2 0 a0_b.length),(1,iW a1),(4,.clo (.func 57) [] []),(10,iW x_17.1),(11,iW x_17.2),(12,iW t12_19),(50,bW (decide (y_22 < (0 : Int))))],[(1,⟨57,true,a0_b.flatMap encR56⟩)]⟩) mixed [⟨0,.own 1 2 0 a0_b.length,none,[]⟩,⟨1,iW a1,none,[]⟩,⟨4,.clo (.func 57) [] [],none,[]⟩,⟨10,iW x_17.1,none,[]⟩,⟨11,iW x_17.2,none,[]⟩,⟨12,iW t12_19,none,[]⟩,⟨40,.clo (.func 57) [] [],some 0,[]⟩,⟨41,.own 1 2 0 a0_b.length,some 1,[]⟩,⟨42,iW t12_19,some 2,[]⟩,⟨43,.ptr 1 (0 + (t12_19).toNat * 2),some 3,[]⟩,⟨44,.agg [rW false y_20.Pattern eW,iW y_20.Count],some 4,[]⟩,⟨45,.own 1 2 0 a0_b.length,some 5,[]⟩,⟨46,iW a1,some 6,[]⟩,⟨47,.ptr 1 (0 + (a1).toNat * 2),some 7,[]⟩,⟨48,.agg [rW false y_21.Pattern eW,iW y_21.Count],some 8,[]⟩,⟨49,iW y_22,some 9,[]⟩,⟨50,bW (decide (y_22 < (0 : Int))),some 10,[]⟩] [⟨[2],0,0,some (40,.clo (.func 57) [] []),[]⟩,⟨[0],0,0,some (41,.own 1 2 0 a0_b.length),[]⟩,⟨[5],0,0,some (42,iW t12_19),[]⟩,⟨[7,8],0,0,some (43,.ptr 1 (0 + (t12_19).toNat * 2)),[]⟩,⟨[9],0,0,some (44,.agg [rW false y_20.Pattern eW,iW y_20.Count]),[]⟩,⟨[0],0,0,some (45,.own 1 2 0 a0_b.length),[]⟩,⟨[1],0,0,some (46,iW a1),[]⟩,⟨[11,12],0,0,some (47,.ptr 1 (0 + (a1).toNat * 2)),[]⟩,⟨[13],0,0,some (48,.agg [rW false y_21.Pattern eW,iW y_21.Count]),[]⟩,⟨[6,10,14],0,0,some (49,iW y_22),[]⟩,⟨[15],0,0,some (50,bW (decide (y_22 < (0 : Int)))),[]⟩] [] [[(1,⟨57,true,a0_b.flatMap encR56⟩)]] [[],[],[],[1,2],[1,2,3],[],[],[5,6],[5,6,7],[0,1,2,3,4,5,6,7,8],[0,1,2,3,4,5,6,7,8,9]] (by kernel_rfl) (by kernel_rfl) (BornL.ok (.o<| .o<| .o<| .o<| .o<| .o<| .b rfl rfl<| .b rfl rfl<| .b rfl rfl<| .b rfl rfl<| .b rfl rfl<| .b rfl rfl<| .b rfl rfl<| .b rfl rfl<| .b rfl rfl<| .b rfl rfl<| .b rfl rfl<| .n)) (BaseL.ok (.o rfl<| .o rfl<| .o rfl<| .o rfl<| .o rfl<| .o rfl<| .b<| .b<| .b<| .b<| .b<| .b<| .b<| .b<| .b<| .b<| .b<| .n)) rfl (by decide) (allLt rfl) (.pure rfl (fun H => .put (fun E hE => .move (lt1 rfl) (.tmp (hE.at (k := 0) rfl))))<| .read rfl (.c (.put (fun E hE => .move (lt1 rfl) (.tmp (hE.at (k := 0) rfl)))) .n)<| .pure rfl (fun H => .put (fun E hE => .move (lt1 rfl) (.tmp (hE.at (k := 0) rfl))))<| .read rfl (.c (.put (fun E hE => .idxOwn (lt1 rfl) (.tmp (hE.at (k := 0) rfl)) (.tmp (hE.at (k := 1) rfl)) Try.underlying52 sz57 rfl hy_20)) .n)<| .read rfl (.c (.put (fun E hE => .loadPA (lt1 rfl) (.tmp (hE.at (k := 0) rfl)) agg57 rfl (cells_at encR56_len hy_20) rfl rfl)) .n)<| .read rfl (.c (.put (fun E hE => .move (lt1 rfl) (.tmp (hE.at (k := 0) rfl)))) .n)<| .pure rfl (fun H => .put (fun E hE => .move (lt1 rfl) (.tmp (hE.at (k := 0) rfl))))<| .read rfl (.c (.put (fun E hE => .idxOwn (lt1 rfl) (.tmp (hE.at (k := 0) rfl)) (.tmp (hE.at (k := 1) rfl)) Try.underlying52 sz57 rfl hy_21)) .n)<| .read rfl (.c (.put (fun E hE => .loadPA (lt1 rfl) (.tmp (hE.at (k := 0) rfl)) agg57 rfl (cells_at encR56_len hy_21) rfl rfl)) .n)<| .read rfl (.c (.put (fun E hE => .keep (bw := false) (AStep.callV (us' := []) (avs := [.agg [rW false ((R56.mk y_20.Pattern y_20.Count).Pattern) eW,iW ((R56.mk y_20.Pattern y_20.Count).Count)],.agg [rW false ((R56.mk y_21.Pattern y_21.Count).Pattern) eW,iW ((R56.mk y_21.Pattern y_21.Count).Count)]]) (cs' := []) (σ := sgT []) (bw := false) (lt1 rfl) (.tmp (hE.at (k := 0) rfl)) (c57 (β1 := false) (β2 := false) n (R56.mk y_20.Pattern y_20.Count) (R56.mk y_21.Pattern y_21.Count) hy_22) (.nil) (.cons (.tmp (hE.at (k := 1) rfl)) (.ren rfl) (.cons (.tmp (hE.at (k := 2) rfl)) (.ren rfl) (.nil))) (.nil) (CallOk.mk' (.n) rfl) (fun _ h => by cases h)) (CallOk.mk' (.n) rfl) rfl rfl)) .n)<| .pure rfl (fun H => .put (fun E hE => .lss (lt1 rfl) (.tmp (hE.at (k := 0) rfl)) (.const _ _ _)))<| .nil _) (fun E hE => .c (DInv.at hE (k := 0) rfl rfl rfl)<| .c (DInv.at hE (k := 1) rfl rfl rfl)<| .c (DInv.at hE (k := 2) rfl rfl rfl)<| .c (DInv.at hE (k := 3) rfl rfl rfl)<| .c (DInv.at hE (k := 4) rfl rfl rfl)<| .c (DInv.at hE (k := 5) rfl rfl rfl)<| .c (DInv.at hE (k := 16) rfl rfl rfl)<| .n _) rfl ?_
    refine AWP.vc (s' := ⟨[(0,.own 1 2 0 a0_b.length),(1,iW a1),(4,.clo (.func 57) [] []),(10,iW x_17.1),(11,iW x_17.2),(12,iW t12_19),(50,bW (decide (y_22 < (0 : Int))))],[(1,⟨57,true,a0_b.flatMap encR56⟩)]⟩) (VC.sub (.of rfl) (.of rfl)) ?_
    refine AWP.join' (S := fun p_24 : Int × Int => ⟨[(0,.own 1 2 0 a0_b.length),(1,iW a1),(4,.clo (.func 57) [] []),(10,iW p_24.1),(11,iW p_24.2)],[(1,⟨57,true,a0_b.flatMap encR56⟩)]⟩) h (fun p_24 h => ?_) (fun k_25 h => ?_)
    ·exact endJ (p_24.1,p_24.2) h (VC.sub (.of rfl) (.of rfl))
    ·refine AWP.cond (.t rfl) (fun hc => ?_) (fun hc => ?_)
     ·have h := iteT hc h
      obtain ⟨t10_23,ht10_23,h⟩ := letS h
      refine AWP.region (.cons (.move (lt1 rfl) (.t rfl))<| .cons (.add (lt1 rfl) (.t rfl) (.const _ _ _))<| .cons (.assign (lt1 rfl) (.t rfl))<| ARun.nil _ _ _) ?_
      exact endJ (t10_23,x_17.2) h (by subst ht10_23; exact VC.sub (.of rfl) (.of rfl))
     ·have h := iteF hc h
      refine AWP.region (.cons (.move (lt1 rfl) (.t rfl))<| .cons (.assign (lt1 rfl) (.t rfl))<| ARun.nil _ _ _) ?_
      exact endJ (x_17.1,t12_19) h (VC.sub (.of rfl) (.of rfl))
   ·have h := iteF hc h
    refine AWP.exit ?_
    exact endJ x_17.1 h (VC.sub (.of rfl) (.of rfl))
 ·have h := iteF hc h
  refine AWP.skip ?_
  refine AWP.seq ?_
  refine AWP.seq ?_
  refine AWP.region (.cons (.move (lt1 rfl) (.t rfl))<| .cons (.move (lt1 rfl) (.t rfl))<| .cons (.sub (lt1 rfl) (.t rfl) (.t rfl))<| .cons (.eql (lt1 rfl) (.t rfl) (.const _ _ _))<| ARun.nil _ _ _) ?_
  refine AWP.vc (s' := ⟨[(0,.own 1 2 0 a0_b.length),(1,iW a1),(2,iW a2),(3,iW a3),(4,.clo (.func 57) [] []),(80,bW (decide ((IntKind.wrap .i64 (a3 - a2)) = (1 : Int))))],[(1,⟨57,true,a0_b.flatMap encR56⟩)]⟩) (VC.sub (.of rfl) (.of rfl)) ?_
  refine AWP.cond (.t rfl) (fun hc => ?_) (fun hc => ?_)
  ·have h := iteT hc h
   refine AWP.seq ?_
   refine AWP.region (.cons (.move (lt1 rfl) (.t rfl))<| .cons (.assign (lt1 rfl) (.t rfl))<| ARun.nil _ _ _) ?_
   refine AWP.vc (s' := ⟨[(0,.own 1 2 0 a0_b.length),(2,iW a2),(4,.clo (.func 57) [] []),(14,iW a1)],[(1,⟨57,true,a0_b.flatMap encR56⟩)]⟩) (VC.sub (.of rfl) (.of rfl)) ?_
   refine AWP.seq ?_
   refine AWP.region (.cons (.move (lt1 rfl) (.t rfl))<| .cons (.assign (lt1 rfl) (.t rfl))<| ARun.nil _ _ _) ?_
   refine AWP.vc (s' := ⟨[(0,.own 1 2 0 a0_b.length),(2,iW a2),(4,.clo (.func 57) [] []),(14,iW a1),(15,iW a2)],[(1,⟨57,true,a0_b.flatMap encR56⟩)]⟩) (VC.sub (.of rfl) (.of rfl)) ?_
   refine AWP.seq ?_
   refine AWP.joinB' (S := fun p_80 : Int => ⟨[(0,.own 1 2 0 a0_b.length),(2,iW a2),(14,iW p_80)],[(1,⟨57,true,a0_b.flatMap encR56⟩)]⟩) h (fun p_80 h => ?_) (fun k_81 h => ?_)
   ·refine AWP.seq ?_
    refine AWP.seq ?_
    refine AWP.region (.cons (.move (lt1 rfl) (.t rfl))<| .cons (.assign (lt1 rfl) (.t rfl))<| ARun.nil _ _ _) ?_
    refine AWP.vc (s' := ⟨[(0,.own 1 2 0 a0_b.length),(14,iW p_80),(17,iW a2)],[(1,⟨57,true,a0_b.flatMap encR56⟩)]⟩) (VC.sub (.of rfl) (.of rfl)) ?_
    refine AWP.joinB' (S := fun p_107 : (List R56) => ⟨[],[(1,⟨57,true,p_107.flatMap encR56⟩)]⟩) h (fun p_107 h => ?_) (fun k_108 h => ?_)
    ·refine AWP.ret ?_
     obtain rfl := Option.some.inj h
     refine retJ (Res.vc (s' := ⟨[],[(1,⟨57,true,p_107.flatMap encR56⟩)]⟩) (VC.sub (.n _) (.of rfl)) ?_)
     refine Res.sub (H := [(1,⟨57,true,p_107.flatMap encR56⟩)]) (.of rfl) ?_
     exact Res.of rfl (.nil) rfl rfl
    ·refine AWP.vc (s' := ⟨[(0,.own 1 2 0 a0_b.length),(14,iW p_80),(17,iW a2)],[(1,⟨57,true,a0_b.flatMap encR56⟩)]⟩) (VC.sub (.of rfl) (.of rfl)) ?_
     refine AWP.loopM (S := fun x_98 : Int × (List R56) => ⟨[(0,.own 1 2 0 x_98.2.length),(14,iW p_80),(17,iW x_98.1)],[(1,⟨57,true,x_98.2.flatMap encR56⟩)]⟩) (x := (a2,a0_b)) (fun nx_99 x_98 h => ?_) h
     unfold m76_L4 at h
     refine AWP.seq ?_
     refine AWP.seq ?_
     refine AWP.region (.cons (.move (lt1 rfl) (.t rfl))<| .cons (.move (lt1 rfl) (.t rfl))<| .cons (.gtr (lt1 rfl) (.t rfl) (.t rfl))<| ARun.nil _ _ _) ?_
     refine AWP.vc (s' := ⟨[(0,.own 1 2 0 x_98.2.length),(14,iW p_80),(17,iW x_98.1),(110,bW (decide (p_80 < x_98.1)))],[(1,⟨57,true,x_98.2.flatMap encR56⟩)]⟩) (VC.sub (.of rfl) (.of rfl)) ?_
     refine AWP.cond (.t rfl) (fun hc => ?_) (fun hc => ?_)
     ·have h := iteT hc h
      refine AWP.skip ?_
      refine AWP.seq ?_
      refine AWP.block ?_
      obtain ⟨y_100,hy_100,h⟩ := bindS h
      obtain ⟨y_101,hy_101,h⟩ := bindS h
      obtain ⟨y_102,hy_102,h⟩ := bindS h
      obtain ⟨l1_103,hl1_103,h⟩ := bindS h
      obtain ⟨y_104,hy_104,h⟩ := bindS h
      obtain ⟨l1_105,hl1_105,h⟩ := bindS h
      refine AWP.draw (s' := ⟨[(0,.own 1 2 0 x_98.2.length),(14,iW p_80),(17,iW x_98.1)],[(1,⟨57,true,l1_105.flatMap encR56⟩)]⟩) mixed [⟨0,.own 1 2 0 x_98.2.length,none,[]⟩,⟨14,iW p_80,none,[]⟩,⟨17,iW x_98.1,none,[]⟩,⟨110,bW (decide (p_80 < x_98.1)),none,[]⟩,⟨113,.own 1 2 0 x_98.2.length,some 0,[]⟩,⟨114,iW x_98.1,some 1,[]⟩,⟨115,.own 1 2 0 x_98.2.length,some 2,[]⟩,⟨116,iW x_98.1,some 3,[]⟩,⟨117,iW (IntKind.wrap .i64 (x_98.1 - (1 : Int))),some 4,[]⟩,⟨118,.own 1 2 0 x_98.2.length,some 5,[]⟩,⟨119,iW x_98.1,some 6,[]⟩,⟨120,iW (IntKind.wrap .i64 (x_98.1 - (1 : Int))),some 7,[]⟩,⟨121,.ptr 1 (0 + ((IntKind.wrap .i64 (x_98.1 - (1 : Int)))).toNat * 2),some 8,[]⟩,⟨122,.agg [rW false y_100.Pattern eW,iW y_100.Count],some 9,[]⟩,⟨123,.own 1 2 0 x_98.2.length,some 10,[]⟩,⟨124,iW x_98.1,some 11,[]⟩,⟨125,.ptr 1 (0 + (x_98.1).toNat * 2),some 12,[]⟩,⟨126,.agg [rW false y_101.Pattern eW,iW y_101.Count],some 13,[]⟩,⟨127,.ptr 1 (0 + (x_98.1).toNat * 2),some 14,[]⟩,⟨128,.ptr 1 (0 + ((IntKind.wrap .i64 (x_98.1 - (1 : Int)))).toNat * 2),some 16,[]⟩] [⟨[0],0,0,some (113,.own 1 2 0 x_98.2.length),[]⟩,⟨[2],0,2,some (114,iW x_98.1),[]⟩,⟨[0],0,1,some (115,.own 1 2 0 x_98.2.length),[]⟩,⟨[2],0,2,some (116,iW x_98.1),[]⟩,⟨[7],0,2,some (117,iW (IntKind.wrap .i64 (x_98.1 - (1 : Int)))),[]⟩,⟨[0],0,0,some (118,.own 1 2 0 x_98.2.length),[]⟩,⟨[2],0,2,some (119,iW x_98.1),[]⟩,⟨[10],0,2,some (120,iW (IntKind.wrap .i64 (x_98.1 - (1 : Int)))),[]⟩,⟨[9,11],0,0,some (121,.ptr 1 (0 + ((IntKind.wrap .i64 (x_98.1 - (1 : Int)))).toNat * 2)),[]⟩,⟨[12],0,0,some (122,.agg [rW false y_100.Pattern eW,iW y_100.Count]),[]⟩,⟨[0],0,0,some (123,.own 1 2 0 x_98.2.length),[]⟩,⟨[2],0,2,some (124,iW x_98.1),[]⟩,⟨[14,15],0,0,some (125,.ptr 1 (0 + (x_98.1).toNat * 2)),[]⟩,⟨[16],0,0,some (126,.agg [rW false y_101.Pattern eW,iW y_101.Count]),[]⟩,⟨[4,5],0,0,some (127,.ptr 1 (0 + (x_98.1).toNat * 2)),[]⟩,⟨[18,13],0,0,none,[]⟩,⟨[6,8],1,1,some (128,.ptr 1 (0 + ((IntKind.wrap .i64 (x_98.1 - (1 : Int)))).toNat * 2)),[]⟩,⟨[19,17],1,1,none,[]⟩] [15,17] [[(1,⟨57,true,x_98.2.flatMap encR56⟩)],[(1,⟨57,true,l1_103.flatMap encR56⟩)],[(1,⟨57,true,l1_105.flatMap encR56⟩)]] [[],[],[],[],[3],[],[],[6],[5,6,7],[5,6,7,8],[],[],[10,11],[10,11,12],[0,1,5,6,7,8,9,10,11,12,13],[0,1,5,6,7,8,9,10,11,12,13,14],[0,1,2,3,4,5,6,7,8,9,10,11,12,13,14,15],[0,1,2,3,4,5,6,7,8,9,10,11,12,13,14,15,16]] (by kernel_rfl) (by kernel_rfl) (BornL.ok (.o<| .o<| .o<| .o<| .b rfl rfl<| .b rfl rfl<| .b rfl rfl<| .b rfl rfl<| .b rfl rfl<| .b rfl rfl<| .b rfl rfl<| .b rfl rfl<| .b rfl rfl<| .b rfl rfl<| .b rfl rfl<| .b rfl rfl<| .b rfl rfl<| .b rfl rfl<| .b rfl rfl<| .b rfl rfl<| .n)) (BaseL.ok (.o rfl<| .o rfl<| .o rfl<| .o rfl<| .b<| .b<| .b<| .b<| .b<| .b<| .b<| .b<| .b<| .b<| .b<| .b<| .b<| .b<| .b<| .b<| .n)) rfl (by decide) (allLt rfl) (.read rfl (.c (.put (fun E hE => .move (lt1 rfl) (.tmp (hE.at (k := 0) rfl)))) (.n))<| .pure rfl (fun H => .put (fun E hE => .move (lt1 rfl) (.tmp (hE.at (k := 0) rfl))))<| .read rfl (.c (.put (fun E hE => .move (lt1 rfl) (.tmp (hE.at (k := 0) rfl)))) (.c (.put (fun E hE => .move (lt1 rfl) (.tmp (hE.at (k := 0) rfl)))) (.n)))<| .pure rfl (fun H => .put (fun E hE => .move (lt1 rfl) (.tmp (hE.at (k := 0) rfl))))<| .pure rfl (fun H => .put (fun E hE => .sub (lt1 rfl) (.tmp (hE.at (k := 0) rfl)) (.const _ _ _)))<| .read rfl (.c (.put (fun E hE => .move (lt1 rfl) (.tmp (hE.at (k := 0) rfl)))) (.n))<| .pure rfl (fun H => .put (fun E hE => .move (lt1 rfl) (.tmp (hE.at (k := 0) rfl))))<| .pure rfl (fun H => .put (fun E hE => .sub (lt1 rfl) (.tmp (hE.at (k := 0) rfl)) (.const _ _ _)))<| .read rfl (.c (.put (fun E hE => .idxOwn (lt1 rfl) (.tmp (hE.at (k := 0) rfl)) (.tmp (hE.at (k := 1) rfl)) Try.underlying52 sz57 rfl hy_100)) (.n))<| .read rfl (.c (.put (fun E hE => .loadPA (lt1 rfl) (.tmp (hE.at (k := 0) rfl)) agg57 rfl (cells_at encR56_len hy_100) rfl rfl)) (.n))<| .read rfl (.c (.put (fun E hE => .move (lt1 rfl) (.tmp (hE.at (k := 0) rfl)))) (.n))<| .pure rfl (fun H => .put (fun E hE => .move (lt1 rfl) (.tmp (hE.at (k := 0) rfl))))<| .read rfl (.c (.put (fun E hE => .idxOwn (lt1 rfl) (.tmp (hE.at (k := 0) rfl)) (.tmp (hE.at (k := 1) rfl)) Try.underlying52 sz57 rfl hy_101)) (.n))<| .read rfl (.c (.put (fun E hE => .loadPA (lt1 rfl) (.tmp (hE.at (k := 0) rfl)) agg57 rfl (cells_at encR56_len hy_101) rfl rfl)) (.n))<| .read rfl (.c (.put (fun E hE => .idxOwn (lt1 rfl) (.tmp (hE.at (k := 0) rfl)) (.tmp (hE.at (k := 1) rfl)) Try.underlying52 sz57 rfl hy_102)) (.n))<| .turn rfl rfl rfl rfl rfl (.store (fun E hE => .storePA (.tmp (hE.at (k := 0) rfl)) (.tmp (hE.at (k := 1) rfl)) sz57 rfl rfl (le_at encR56_len hy_102) (one_lit rfl) (fun _ => still_lit rfl) (splL_at encR56_len hy_102 hl1_103)) rfl)<| .read rfl (.c (.put (fun E hE => .idxOwn (lt1 rfl) (.ownN (Eq.symm (setLen hl1_103)) (.tmp (hE.at (k := 0) rfl))) (.tmp (hE.at (k := 1) rfl)) Try.underlying52 sz57 rfl hy_104)) (.n))<| .turn rfl rfl rfl rfl rfl (.store (fun E hE => .storePA (.tmp (hE.at (k := 0) rfl)) (.tmp (hE.at (k := 1) rfl)) sz57 rfl rfl (le_at encR56_len hy_104) (one_lit rfl) (fun _ => still_lit rfl) (splL_at encR56_len hy_104 hl1_105)) rfl)<| .nil _) (fun E hE => .c (DInv.at hE (k := 0) rfl rfl rfl)<| .c (DInv.at hE (k := 1) rfl rfl rfl)<| .c (DInv.at hE (k := 2) rfl rfl rfl)<| .n _) rfl ?_
      refine AWP.vc (s' := ⟨[(0,.own 1 2 0 l1_105.length),(14,iW p_80),(17,iW x_98.1)],[(1,⟨57,true,l1_105.flatMap encR56⟩)]⟩) (VC.sub (.c (lenC (Eq.symm (Eq.trans (setLen hl1_105) (setLen hl1_103))) rfl)<| .c rfl<| .c rfl<| .n _) (.of rfl)) ?_
      obtain ⟨t17_106,ht17_106,h⟩ := letS h
      refine AWP.region (.cons (.move (lt1 rfl) (.t rfl))<| .cons (.sub (lt1 rfl) (.t rfl) (.const _ _ _))<| .cons (.assign (lt1 rfl) (.t rfl))<| ARun.nil _ _ _) ?_
      exact endJ (t17_106,l1_105) h (by subst ht17_106; exact VC.sub (.of rfl) (.of rfl))
     ·have h := iteF hc h
      refine AWP.exit ?_
      exact endJ x_98.2 h (VC.sub (.n _) (.of rfl))
   ·refine AWP.vc (s' := ⟨[(0,.own 1 2 0 a0_b.length),(2,iW a2),(4,.clo (.func 57) [] []),(14,iW a1),(15,iW a2)],[(1,⟨57,true,a0_b.flatMap encR56⟩)]⟩) (VC.sub (.of rfl) (.of rfl)) ?_
    refine AWP.loopM (S := fun x_71 : Int × Int => ⟨[(0,.own 1 2 0 a0_b.length),(2,iW a2),(4,.clo (.func 57) [] []),(14,iW x_71.1),(15,iW x_71.2)],[(1,⟨57,true,a0_b.flatMap encR56⟩)]⟩) (x := (a1,a2)) (fun nx_72 x_71 h => ?_) h
    unfold m76_L3 at h
    refine AWP.seq ?_
    refine AWP.seq ?_
    refine AWP.region (.cons (.move (lt1 rfl) (.t rfl))<| .cons (.move (lt1 rfl) (.t rfl))<| .cons (.lss (lt1 rfl) (.t rfl) (.t rfl))<| ARun.nil _ _ _) ?_
    refine AWP.vc (s' := ⟨[(0,.own 1 2 0 a0_b.length),(2,iW a2),(4,.clo (.func 57) [] []),(14,iW x_71.1),(15,iW x_71.2),(85,bW (decide (x_71.1 < x_71.2)))],[(1,⟨57,true,a0_b.flatMap encR56⟩)]⟩) (VC.sub (.of rfl) (.of rfl)) ?_
    refine AWP.cond (.t rfl) (fun hc => ?_) (fun hc => ?_)
    ·have h := iteT hc h
     refine AWP.skip ?_
     refine AWP.block ?_
     refine AWP.seq ?_
     obtain ⟨t16_73,ht16_73,h⟩ := letS h
     refine AWP.region (.cons (.move (lt1 rfl) (.t rfl))<| .cons (.move (lt1 rfl) (.t rfl))<| .cons (.add (lt1 rfl) (.t rfl) (.t rfl))<| .cons (.conv (lt1 rfl) (.t rfl) Try.underlying3 Try.underlying105)<| .cons (.shr (lt1 rfl) (.t rfl) (.const _ _ _) (by decide))<| .cons (.conv (lt1 rfl) (.t rfl) Try.underlying105 Try.underlying3)<| .cons (.assign (lt1 rfl) (.t rfl))<| ARun.nil _ _ _) ?_
     refine AWP.vc (s' := ⟨[(0,.own 1 2 0 a0_b.length),(2,iW a2),(4,.clo (.func 57) [] []),(14,iW x_71.1),(15,iW x_71.2),(16,iW t16_73)],[(1,⟨57,true,a0_b.flatMap encR56⟩)]⟩) (by subst ht16_73; exact VC.sub (.of rfl) (.of rfl)) ?_
     refine AWP.seq ?_
     obtain ⟨y_74,hy_74,h⟩ := bindS h
     obtain ⟨y_75,hy_75,h⟩ := bindS h
     obtain ⟨y_76,hy_76,h⟩ := bindS h
     refine AWP.draw (s' := ⟨[(0,.own 1 2 0 a0_b.length),(2,iW a2),(4,.clo (.func 57) [] []),(14,iW x_71.1),(15,iW x_71.2),(16,iW t16_73),(103,bW (!(decide (y_76 < (0 : Int)))))],[(1,⟨57,true,a0_b.flatMap encR56⟩)]⟩) mixed [⟨0,.own 1 2 0 a0_b.length,none,[]⟩,⟨2,iW a2,none,[]⟩,⟨4,.clo (.func 57) [] [],none,[]⟩,⟨14,iW x_71.1,none,[]⟩,⟨15,iW x_71.2,none,[]⟩,⟨16,iW t16_73,none,[]⟩,⟨92,.clo (.func 57) [] [],some 0,[]⟩,⟨93,.own 1 2 0 a0_b.length,some 1,[]⟩,⟨94,iW a2,some 2,[]⟩,⟨95,.ptr 1 (0 + (a2).toNat * 2),some 3,[]⟩,⟨96,.agg [rW false y_74.Pattern eW,iW y_74.Count],some 4,[]⟩,⟨97,.own 1 2 0 a0_b.length,some 5,[]⟩,⟨98,iW t16_73,some 6,[]⟩,⟨99,.ptr 1 (0 + (t16_73).toNat * 2),some 7,[]⟩,⟨100,.agg [rW false y_75.Pattern eW,iW y_75.Count],some 8,[]⟩,⟨101,iW y_76,some 9,[]⟩,⟨102,bW (decide (y_76 < (0 : Int))),some 10,[]⟩,⟨103,bW (!(decide (y_76 < (0 : Int)))),some 11,[]⟩] [⟨[2],0,0,some (92,.clo (.func 57) [] []),[]⟩,⟨[0],0,0,some (93,.own 1 2 0 a0_b.length),[]⟩,⟨[1],0,0,some (94,iW a2),[]⟩,⟨[7,8],0,0,some (95,.ptr 1 (0 + (a2).toNat * 2)),[]⟩,⟨[9],0,0,some (96,.agg [rW false y_74.Pattern eW,iW y_74.Count]),[]⟩,⟨[0],0,0,some (97,.own 1 2 0 a0_b.length),[]⟩,⟨[5],0,0,some (98,iW t16_73),[]⟩,⟨[11,12],0,0,some (99,.ptr 1 (0 + (t16_73).toNat * 2)),[]⟩,⟨[13],0,0,some (100,.agg [rW false y_75.Pattern eW,iW y_75.Count]),[]⟩,⟨[6,10,14],0,0,some (101,iW y_76),[]⟩,⟨[15],0,0,some (102,bW (decide (y_76 < (0 : Int)))),[]⟩,⟨[16],0,0,some (103,bW (!(decide (y_76 < (0 : Int))))),[]⟩] [] [[(1,⟨57,true,a0_b.flatMap encR56⟩)]] [[],[],[],[1,2],[1,2,3],[],[],[5,6],[5,6,7],[0,1,2,3,4,5,6,7,8],[0,1,2,3,4,5,6,7,8,9],[0,1,2,3,4,5,6,7,8,9,10]] (by kernel_rfl) (by kernel_rfl) (BornL.ok (.o<| .o<| .o<| .o<| .o<| .o<| .b rfl rfl<| .b rfl rfl<| .b rfl rfl<| .b rfl rfl<| .b rfl rfl<| .b rfl rfl<| .b rfl rfl<| .b rfl rfl<| .b rfl rfl<| .b rfl rfl<| .b rfl rfl<| .b rfl rfl<| .n)) (BaseL.ok (.o rfl<| .o rfl<| .o rfl<| .o rfl<| .o rfl<| .o rfl<| .b<| .b<| .b<| .b<| .b<| .b<| .b<| .b<| .b<| .b<| .b<| .b<| .n)) rfl (by decide) (allLt rfl) (.pure rfl (fun H => .put (fun E hE => .move (lt1 rfl) (.tmp (hE.at (k := 0) rfl))))<| .read rfl (.c (.put (fun E hE => .move (lt1 rfl) (.tmp (hE.at (k := 0) rfl)))) .n)<| .pure rfl (fun H => .put (fun E hE => .move (lt1 rfl) (.tmp (hE.at (k := 0) rfl))))<| .read rfl (.c (.put (fun E hE => .idxOwn (lt1 rfl) (.tmp (hE.at (k := 0) rfl)) (.tmp (hE.at (k := 1) rfl)) Try.underlying52 sz57 rfl hy_74)) .n)<| .read rfl (.c (.put (fun E hE => .loadPA (lt1 rfl) (.tmp (hE.at (k := 0) rfl)) agg57 rfl (cells_at encR56_len hy_74) rfl rfl)) .n)<| .read rfl (.c (.put (fun E hE => .move (lt1 rfl) (.tmp (hE.at (k := 0) rfl)))) .n)<| .pure rfl (fun H => .put (fun E hE => .move (lt1 rfl) (.tmp (hE.at (k := 0) rfl))))<| .read rfl (.c (.put (fun E hE => .idxOwn (lt1 rfl) (.tmp (hE.at (k := 0) rfl)) (.tmp (hE.at (k := 1) rfl)) Try.underlying52 sz57 rfl hy_75)) .n)<| .read rfl (.c (.put (fun E hE => .loadPA (lt1 rfl) (.tmp (hE.at (k := 0) rfl)) agg57 rfl (cells_at encR56_len hy_75) rfl rfl)) .n)<| .read rfl (.c (.put (fun E hE => .keep (bw := false) (AStep.callV (us' := []) (avs := [.agg [rW false ((R56.mk y_74.Pattern y_74.Count).Pattern) eW,iW ((R56.mk y_74.Pattern y_74.Count).Count)],.agg [rW false ((R56.mk y_75.Pattern y_75.Count).Pattern) eW,iW ((R56.mk y_75.Pattern y_75.Count).Count)]]) (cs' := []) (σ := sgT []) (bw := false) (lt1 rfl) (.tmp (hE.at (k := 0) rfl)) (c57 (β1 := false) (β2 := false) n (R56.mk y_74.Pattern y_74.Count) (R56.mk y_75.Pattern y_75.Count) hy_76) (.nil) (.cons (.tmp (hE.at (k := 1) rfl)) (.ren rfl) (.cons (.tmp (hE.at (k := 2) rfl)) (.ren rfl) (.nil))) (.nil) (CallOk.mk' (.n) rfl) (fun _ h => by cases h)) (CallOk.mk' (.n) rfl) rfl rfl)) .n)<| .pure rfl (fun H => .put (fun E hE => .lss (lt1 rfl) (.tmp (hE.at (k := 0) rfl)) (.const _ _ _)))<| .pure rfl (fun H => .put (fun E hE => .not (lt1 rfl) (.tmp (hE.at (k := 0) rfl))))<| .nil _) (fun E hE => .c (DInv.at hE (k := 0) rfl rfl rfl)<| .c (DInv.at hE (k := 1) rfl rfl rfl)<| .c (DInv.at hE (k := 2) rfl rfl rfl)<| .c (DInv.at hE (k := 3) rfl rfl rfl)<| .c (DInv.at hE (k := 4) rfl rfl rfl)<| .c (DInv.at hE (k := 5) rfl rfl rfl)<| .c (DInv.at hE (k := 17) rfl rfl rfl)<| .n _) rfl ?_
     refine AWP.vc (s' := ⟨[(0,.own 1 2 0 a0_b.length),(2,iW a2),(4,.clo (.func 57) [] []),(14,iW x_71.1),(15,iW x_71.2),(16,iW t16_73),(103,bW (!(decide (y_76 < (0 : Int)))))],[(1,⟨57,true,a0_b.flatMap encR56⟩)]⟩) (VC.sub (.of rfl) (.of rfl)) ?_
     refine AWP.join' (S := fun p_78 : Int × Int => ⟨[(0,.own 1 2 0 a0_b.length),(2,iW a2),(4,.clo (.func 57) [] []),(14,iW p_78.1),(15,iW p_78.2)],[(1,⟨57,true,a0_b.flatMap encR56⟩)]⟩) h (fun p_78 h => ?_) (fun k_79 h => ?_)
     ·exact endJ (p_78.1,p_78.2) h (VC.sub (.of rfl) (.of rfl))
     ·refine AWP.cond (.t rfl) (fun hc => ?_) (fun hc => ?_)
      ·have h := iteT hc h
       obtain ⟨t14_77,ht14_77,h⟩ := letS h
       refine AWP.region (.cons (.move (lt1 rfl) (.t rfl))<| .cons (.add (lt1 rfl) (.t rfl) (.const _ _ _))<| .cons (.assign (lt1 rfl) (.t rfl))<| ARun.nil _ _ _) ?_
       exact endJ (t14_77,x_71.2) h (by subst ht14_77; exact VC.sub (.of rfl) (.of rfl))
      ·have h := iteF hc h
       refine AWP.region (.cons (.move (lt1 rfl) (.t rfl))<| .cons (.assign (lt1 rfl) (.t rfl))<| ARun.nil _ _ _) ?_
       exact endJ (x_71.1,t16_73) h (VC.sub (.of rfl) (.of rfl))
    ·have h := iteF hc h
     refine AWP.exit ?_
     exact endJ x_71.1 h (VC.sub (.of rfl) (.of rfl))
  ·have h := iteF hc h
   refine AWP.skip ?_
   refine AWP.seq ?_
   obtain ⟨t18_109,ht18_109,h⟩ := letS h
   refine AWP.region (.cons (.move (lt1 rfl) (.t rfl))<| .cons (.move (lt1 rfl) (.t rfl))<| .cons (.add (lt1 rfl) (.t rfl) (.t rfl))<| .cons (.conv (lt1 rfl) (.t rfl) Try.underlying3 Try.underlying105)<| .cons (.shr (lt1 rfl) (.t rfl) (.const _ _ _) (by decide))<| .cons (.conv (lt1 rfl) (.t rfl) Try.underlying105 Try.underlying3)<| .cons (.assign (lt1 rfl) (.t rfl))<| ARun.nil _ _ _) ?_
   refine AWP.vc (s' := ⟨[(0,.own 1 2 0 a0_b.length),(1,iW a1),(2,iW a2),(3,iW a3),(4,.clo (.func 57) [] []),(18,iW t18_109)],[(1,⟨57,true,a0_b.flatMap encR56⟩)]⟩) (by subst ht18_109; exact VC.sub (.of rfl) (.of rfl)) ?_
   refine AWP.seq ?_
   obtain ⟨t19_110,ht19_110,h⟩ := letS h
   refine AWP.region (.cons (.move (lt1 rfl) (.t rfl))<| .cons (.move (lt1 rfl) (.t rfl))<| .cons (.add (lt1 rfl) (.t rfl) (.t rfl))<| .cons (.assign (lt1 rfl) (.t rfl))<| ARun.nil _ _ _) ?_
   refine AWP.vc (s' := ⟨[(0,.own 1 2 0 a0_b.length),(1,iW a1),(2,iW a2),(3,iW a3),(4,.clo (.func 57) [] []),(18,iW t18_109),(19,iW t19_110)],[(1,⟨57,true,a0_b.flatMap encR56⟩)]⟩) (by subst ht19_110; exact VC.sub (.of rfl) (.of rfl)) ?_
   refine AWP.seq ?_
   refine AWP.region (.cons (.assign (lt1 rfl) (.const _ _ _))<| .cons (.assign (lt1 rfl) (.const _ _ _))<| ARun.nil _ _ _) ?_
   refine AWP.vc (s' := ⟨[(0,.own 1 2 0 a0_b.length),(1,iW a1),(2,iW a2),(3,iW a3),(4,.clo (.func 57) [] []),(18,iW t18_109),(19,iW t19_110)],[(1,⟨57,true,a0_b.flatMap encR56⟩)]⟩) (VC.sub (.of rfl) (.of rfl)) ?_
   refine AWP.seq ?_
   refine AWP.seq ?_
   refine AWP.region (.cons (.move (lt1 rfl) (.t rfl))<| .cons (.move (lt1 rfl) (.t rfl))<| .cons (.gtr (lt1 rfl) (.t rfl) (.t rfl))<| ARun.nil _ _ _) ?_
   refine AWP.vc (s' := ⟨[(0,.own 1 2 0 a0_b.length),(1,iW a1),(2,iW a2),(3,iW a3),(4,.clo (.func 57) [] []),(18,iW t18_109),(19,iW t19_110),(140,bW (decide (t18_109 < a2)))],[(1,⟨57,true,a0_b.flatMap encR56⟩)]⟩) (VC.sub (.of rfl) (.of rfl)) ?_
   refine AWP.join' (S := fun p_112 : Int × Int => ⟨[(0,.own 1 2 0 a0_b.length),(1,iW a1),(2,iW a2),(3,iW a3),(4,.clo (.func 57) [] []),(18,iW t18_109),(19,iW t19_110),(20,iW p_112.1),(21,iW p_112.2)],[(1,⟨57,true,a0_b.flatMap encR56⟩)]⟩) h (fun p_112 h => ?_) (fun k_113 h => ?_)
   ·refine AWP.seq ?_
    obtain ⟨t22_114,ht22_114,h⟩ := letS h
    refine AWP.region (.cons (.move (lt1 rfl) (.t rfl))<| .cons (.sub (lt1 rfl) (.t rfl) (.const _ _ _))<| .cons (.assign (lt1 rfl) (.t rfl))<| ARun.nil _ _ _) ?_
    refine AWP.vc (s' := ⟨[(0,.own 1 2 0 a0_b.length),(1,iW a1),(2,iW a2),(3,iW a3),(4,.clo (.func 57) [] []),(18,iW t18_109),(19,iW t19_110),(20,iW p_112.1),(21,iW p_112.2),(22,iW t22_114)],[(1,⟨57,true,a0_b.flatMap encR56⟩)]⟩) (by subst ht22_114; exact VC.sub (.of rfl) (.of rfl)) ?_
    refine AWP.seq ?_
    refine AWP.joinB' (S := fun p_140 : Int => ⟨[(0,.own 1 2 0 a0_b.length),(1,iW a1),(2,iW a2),(3,iW a3),(4,.clo (.func 57) [] []),(18,iW t18_109),(19,iW t19_110),(20,iW p_140)],[(1,⟨57,true,a0_b.flatMap encR56⟩)]⟩) h (fun p_140 h => ?_) (fun k_141 h => ?_)
    ·refine AWP.seq ?_
     obtain ⟨t24_142,ht24_142,h⟩ := letS h
     refine AWP.region (.cons (.move (lt1 rfl) (.t rfl))<| .cons (.move (lt1 rfl) (.t rfl))<| .cons (.sub (lt1 rfl) (.t rfl) (.t rfl))<| .cons (.assign (lt1 rfl) (.t rfl))<| ARun.nil _ _ _) ?_
     refine AWP.vc (s' := ⟨[(0,.own 1 2 0 a0_b.length),(1,iW a1),(2,iW a2),(3,iW a3),(4,.clo (.func 57) [] []),(18,iW t18_109),(20,iW p_140),(24,iW t24_142)],[(1,⟨57,true,a0_b.flatMap encR56⟩)]⟩) (by subst ht24_142; exact VC.sub (.of rfl) (.of rfl)) ?_
     refine AWP.seq ?_
     refine AWP.seq ?_
     refine AWP.region (.cons (.move (lt1 rfl) (.t rfl))<| .cons (.move (lt1 rfl) (.t rfl))<| .cons (.lss (lt1 rfl) (.t rfl) (.t rfl))<| .cons (.move (lt1 rfl) (.t rfl))<| .guard (j := 3) (dj := 181) rfl (lt1 rfl) rfl (lt1 rfl) (fun hg => .move (lt1 rfl) (.t rfl))<| .guard (j := 3) (dj := 181) rfl (lt1 rfl) rfl (lt1 rfl) (fun hg => .move (lt1 rfl) (.t rfl))<| .guard (j := 3) (dj := 181) rfl (lt1 rfl) rfl (lt1 rfl) (fun hg => .lss (lt1 rfl) (.gd hg (.t rfl)) (.gd hg (.t rfl)))<| .cons (.pickAnd (lt1 rfl) (.t rfl) (.t rfl) (.const _ _ _))<| ARun.nil _ _ _) ?_
     refine AWP.vc (s' := ⟨[(0,.own 1 2 0 a0_b.length),(1,iW a1),(2,iW a2),(3,iW a3),(4,.clo (.func 57) [] []),(18,iW t18_109),(20,iW p_140),(24,iW t24_142),(185,bW ((decide (p_140 < a2)) && (decide (a2 < t24_142))))],[(1,⟨57,true,a0_b.flatMap encR56⟩)]⟩) (VC.sub (.of rfl) (.of rfl)) ?_
     refine AWP.join' (S := fun p_145 : (List R56) => ⟨[(0,.own 1 2 0 p_145.length),(1,iW a1),(3,iW a3),(4,.clo (.func 57) [] []),(18,iW t18_109),(20,iW p_140),(24,iW t24_142)],[(1,⟨57,true,p_145.flatMap encR56⟩)]⟩) h (fun p_145 h => ?_) (fun k_146 h => ?_)
     ·refine AWP.seq ?_
      refine AWP.seq ?_
      refine AWP.region (.cons (.move (lt1 rfl) (.t rfl))<| .cons (.move (lt1 rfl) (.t rfl))<| .cons (.lss (lt1 rfl) (.t rfl) (.t rfl))<| .cons (.move (lt1 rfl) (.t rfl))<| .guard (j := 3) (dj := 195) rfl (lt1 rfl) rfl (lt1 rfl) (fun hg => .move (lt1 rfl) (.t rfl))<| .guard (j := 3) (dj := 195) rfl (lt1 rfl) rfl (lt1 rfl) (fun hg => .move (lt1 rfl) (.t rfl))<| .guard (j := 3) (dj := 195) rfl (lt1 rfl) rfl (lt1 rfl) (fun hg => .lss (lt1 rfl) (.gd hg (.t rfl)) (.gd hg (.t rfl)))<| .cons (.pickAnd (lt1 rfl) (.t rfl) (.t rfl) (.const _ _ _))<| ARun.nil _ _ _) ?_
      refine AWP.vc (s' := ⟨[(0,.own 1 2 0 p_145.length),(1,iW a1),(3,iW a3),(4,.clo (.func 57) [] []),(18,iW t18_109),(20,iW p_140),(24,iW t24_142),(199,bW ((decide (a1 < p_140)) && (decide (p_140 < t18_109))))],[(1,⟨57,true,p_145.flatMap encR56⟩)]⟩) (VC.sub (.of rfl) (.of rfl)) ?_
      refine AWP.join' (S := fun p_149 : (List R56) => ⟨[(0,.own 1 2 0 p_149.length),(3,iW a3),(4,.clo (.func 57) [] []),(18,iW t18_109),(24,iW t24_142)],[(1,⟨57,true,p_149.flatMap encR56⟩)]⟩) h (fun p_149 h => ?_) (fun k_150 h => ?_)
      ·refine AWP.seq ?_
       refine AWP.region (.cons (.move (lt1 rfl) (.t rfl))<| .cons (.move (lt1 rfl) (.t rfl))<| .cons (.lss (lt1 rfl) (.t rfl) (.t rfl))<| .cons (.move (lt1 rfl) (.t rfl))<| .guard (j := 3) (dj := 209) rfl (lt1 rfl) rfl (lt1 rfl) (fun hg => .move (lt1 rfl) (.t rfl))<| .guard (j := 3) (dj := 209) rfl (lt1 rfl) rfl (lt1 rfl) (fun hg => .move (lt1 rfl) (.t rfl))<| .guard (j := 3) (dj := 209) rfl (lt1 rfl) rfl (lt1 rfl) (fun hg => .lss (lt1 rfl) (.gd hg (.t rfl)) (.gd hg (.t rfl)))<| .cons (.pickAnd (lt1 rfl) (.t rfl) (.t rfl) (.const _ _ _))<| ARun.nil _ _ _) ?_
       refine AWP.vc (s' := ⟨[(0,.own 1 2 0 p_149.length),(3,iW a3),(4,.clo (.func 57) [] []),(18,iW t18_109),(24,iW t24_142),(213,bW ((decide (t18_109 < t24_142)) && (decide (t24_142 < a3))))],[(1,⟨57,true,p_149.flatMap encR56⟩)]⟩) (VC.sub (.of rfl) (.of rfl)) ?_
       refine AWP.join' (S := fun p_153 : (List R56) => ⟨[],[(1,⟨57,true,p_153.flatMap encR56⟩)]⟩) h (fun p_153 h => ?_) (fun k_154 h => ?_)
       ·obtain rfl := Option.some.inj h
        refine norJ (Res.vc (s' := ⟨[],[(1,⟨57,true,p_153.flatMap encR56⟩)]⟩) (VC.sub (.n _) (.of rfl)) ?_)
        refine Res.sub (H := [(1,⟨57,true,p_153.flatMap encR56⟩)]) (.of rfl) ?_
        exact Res.of rfl (.nil) rfl rfl
       ·refine AWP.cond (.t rfl) (fun hc => ?_) (fun hc => ?_)
        ·have h := iteT hc h
         obtain ⟨y_151,hy_151,h⟩ := bindS h
         obtain ⟨ha_152,h⟩ := asrtS h
         refine AWP.region (.cons (.move (lt1 rfl) (.t rfl))<| .cons (.move (lt1 rfl) (.t rfl))<| .cons (.move (lt1 rfl) (.t rfl))<| .cons (.move (lt1 rfl) (.t rfl))<| .cons (.move (lt1 rfl) (.t rfl))<| .cons (.call (σ := fun _ => 1) (bw := false) (lt1 rfl) (ih p_149 t18_109 t24_142 a3 hy_151) (.cons (.t rfl) (.ren rfl) (.cons (.t rfl) (.ren rfl) (.cons (.t rfl) (.ren rfl) (.cons (.t rfl) (.ren rfl) (.cons (.t rfl) (.ren rfl) (.nil)))))) (CallOk.mk' (.c rfl (.n)) rfl))<| ARun.nil _ _ _) ?_
         exact endJ y_151 h (VC.sub (.n _) (.of rfl))
        ·have h := iteF hc h
         refine AWP.skip ?_
         exact endJ p_149 h (VC.sub (.n _) (.of rfl))
      ·refine AWP.cond (.t rfl) (fun hc => ?_) (fun hc => ?_)
       ·have h := iteT hc h
        obtain ⟨y_147,hy_147,h⟩ := bindS h
        obtain ⟨ha_148,h⟩ := asrtS h
        refine AWP.region (.cons (.move (lt1 rfl) (.t rfl))<| .cons (.move (lt1 rfl) (.t rfl))<| .cons (.move (lt1 rfl) (.t rfl))<| .cons (.move (lt1 rfl) (.t rfl))<| .cons (.move (lt1 rfl) (.t rfl))<| .cons (.call (σ := fun _ => 1) (bw := false) (lt1 rfl) (ih p_145 a1 p_140 t18_109 hy_147) (.cons (.t rfl) (.ren rfl) (.cons (.t rfl) (.ren rfl) (.cons (.t rfl) (.ren rfl) (.cons (.t rfl) (.ren rfl) (.cons (.t rfl) (.ren rfl) (.nil)))))) (CallOk.mk' (.c rfl (.n)) rfl))<| ARun.nil _ _ _) ?_
        exact endJ y_147 h (VC.sub (.c (lenC (Eq.symm (Eq.symm ha_148)) rfl)<| .c rfl<| .c rfl<| .c rfl<| .c rfl<| .n _) (.of rfl))
       ·have h := iteF hc h
        refine AWP.skip ?_
        exact endJ p_145 h (VC.sub (.of rfl) (.of rfl))
     ·refine AWP.cond (.t rfl) (fun hc => ?_) (fun hc => ?_)
      ·have h := iteT hc h
       obtain ⟨y_143,hy_143,h⟩ := bindS h
       obtain ⟨ha_144,h⟩ := asrtS h
       refine AWP.region (.cons (.move (lt1 rfl) (.t rfl))<| .cons (.move (lt1 rfl) (.t rfl))<| .cons (.move (lt1 rfl) (.t rfl))<| .cons (.move (lt1 rfl) (.t rfl))<| .cons (.move (lt1 rfl) (.t rfl))<| .cons (.call (σ := fun _ => 1) (bw := false) (lt1 rfl) (c79 n a0_b p_140 a2 t24_142 hy_143) (.cons (.t rfl) (.ren rfl) (.cons (.t rfl) (.ren rfl) (.cons (.t rfl) (.ren rfl) (.cons (.t rfl) (.ren rfl) (.cons (.t rfl) (.ren rfl) (.nil)))))) (CallOk.mk' (.c rfl (.n)) rfl))<| ARun.nil _ _ _) ?_
       exact endJ y_143 h (VC.sub (.c (lenC (Eq.symm (Eq.symm ha_144)) rfl)<| .c rfl<| .c rfl<| .c rfl<| .c rfl<| .c rfl<| .c rfl<| .n _) (.of rfl))
      ·have h := iteF hc h
       refine AWP.skip ?_
       exact endJ a0_b h (VC.sub (.of rfl) (.of rfl))
    ·refine AWP.vc (s' := ⟨[(0,.own 1 2 0 a0_b.length),(1,iW a1),(2,iW a2),(3,iW a3),(4,.clo (.func 57) [] []),(18,iW t18_109),(19,iW t19_110),(20,iW p_112.1),(21,iW p_112.2),(22,iW t22_114)],[(1,⟨57,true,a0_b.flatMap encR56⟩)]⟩) (VC.sub (.of rfl) (.of rfl)) ?_
     refine AWP.loopM (S := fun x_131 : Int × Int => ⟨[(0,.own 1 2 0 a0_b.length),(1,iW a1),(2,iW a2),(3,iW a3),(4,.clo (.func 57) [] []),(18,iW t18_109),(19,iW t19_110),(20,iW x_131.1),(21,iW x_131.2),(22,iW t22_114)],[(1,⟨57,true,a0_b.flatMap encR56⟩)]⟩) (x := (p_112.1,p_112.2)) (fun nx_132 x_131 h => ?_) h
     unfold m76_L5 at h
     refine AWP.seq ?_
     refine AWP.seq ?_
     refine AWP.region (.cons (.move (lt1 rfl) (.t rfl))<| .cons (.move (lt1 rfl) (.t rfl))<| .cons (.lss (lt1 rfl) (.t rfl) (.t rfl))<| ARun.nil _ _ _) ?_
     refine AWP.vc (s' := ⟨[(0,.own 1 2 0 a0_b.length),(1,iW a1),(2,iW a2),(3,iW a3),(4,.clo (.func 57) [] []),(18,iW t18_109),(19,iW t19_110),(20,iW x_131.1),(21,iW x_131.2),(22,iW t22_114),(151,bW (decide (x_131.1 < x_131.2)))],[(1,⟨57,true,a0_b.flatMap encR56⟩)]⟩) (VC.sub (.of rfl) (.of rfl)) ?_
     refine AWP.cond (.t rfl) (fun hc => ?_) (fun hc => ?_)
     ·have h := iteT hc h
      refine AWP.skip ?_
      refine AWP.block ?_
      refine AWP.seq ?_
      obtain ⟨t23_133,ht23_133,h⟩ := letS h
      refine AWP.region (.cons (.move (lt1 rfl) (.t rfl))<| .cons (.move (lt1 rfl) (.t rfl))<| .cons (.add (lt1 rfl) (.t rfl) (.t rfl))<| .cons (.conv (lt1 rfl) (.t rfl) Try.underlying3 Try.underlying105)<| .cons (.shr (lt1 rfl) (.t rfl) (.const _ _ _) (by decide))<| .cons (.conv (lt1 rfl) (.t rfl) Try.underlying105 Try.underlying3)<| .cons (.assign (lt1 rfl) (.t rfl))<| ARun.nil _ _ _) ?_
      refine AWP.vc (s' := ⟨[(0,.own 1 2 0 a0_b.length),(1,iW a1),(2,iW a2),(3,iW a3),(4,.clo (.func 57) [] []),(18,iW t18_109),(19,iW t19_110),(20,iW x_131.1),(21,iW x_131.2),(22,iW t22_114),(23,iW t23_133)],[(1,⟨57,true,a0_b.flatMap encR56⟩)]⟩) (by subst ht23_133; exact VC.sub (.of rfl) (.of rfl)) ?_
      refine AWP.seq ?_
      obtain ⟨y_134,hy_134,h⟩ := bindS h
      obtain ⟨y_135,hy_135,h⟩ := bindS h
      obtain ⟨y_136,hy_136,h⟩ := bindS h
      refine AWP.draw (s' := ⟨[(0,.own 1 2 0 a0_b.length),(1,iW a1),(2,iW a2),(3,iW a3),(4,.clo (.func 57) [] []),(18,iW t18_109),(19,iW t19_110),(20,iW x_131.1),(21,iW x_131.2),(22,iW t22_114),(23,iW t23_133),(171,bW (!(decide (y_136 < (0 : Int)))))],[(1,⟨57,true,a0_b.flatMap encR56⟩)]⟩) mixed [⟨0,.own 1 2 0 a0_b.length,none,[]⟩,⟨1,iW a1,none,[]⟩,⟨2,iW a2,none,[]⟩,⟨3,iW a3,none,[]⟩,⟨4,.clo (.func 57) [] [],none,[]⟩,⟨18,iW t18_109,none,[]⟩,⟨19,iW t19_110,none,[]⟩,⟨20,iW x_131.1,none,[]⟩,⟨21,iW x_131.2,none,[]⟩,⟨22,iW t22_114,none,[]⟩,⟨23,iW t23_133,none,[]⟩,⟨158,.clo (.func 57) [] [],some 0,[]⟩,⟨159,.own 1 2 0 a0_b.length,some 1,[]⟩,⟨160,iW t22_114,some 2,[]⟩,⟨161,iW t23_133,some 3,[]⟩,⟨162,iW (IntKind.wrap .i64 (t22_114 - t23_133)),some 4,[]⟩,⟨163,.ptr 1 (0 + ((IntKind.wrap .i64 (t22_114 - t23_133))).toNat * 2),some 5,[]⟩,⟨164,.agg [rW false y_134.Pattern eW,iW y_134.Count],some 6,[]⟩,⟨165,.own 1 2 0 a0_b.length,some 7,[]⟩,⟨166,iW t23_133,some 8,[]⟩,⟨167,.ptr 1 (0 + (t23_133).toNat * 2),some 9,[]⟩,⟨168,.agg [rW false y_135.Pattern eW,iW y_135.Count],some 10,[]⟩,⟨169,iW y_136,some 11,[]⟩,⟨170,bW (decide (y_136 < (0 : Int))),some 12,[]⟩,⟨171,bW (!(decide (y_136 < (0 : Int)))),some 13,[]⟩] [⟨[4],0,0,some (158,.clo (.func 57) [] []),[]⟩,⟨[0],0,0,some (159,.own 1 2 0 a0_b.length),[]⟩,⟨[9],0,0,some (160,iW t22_114),[]⟩,⟨[10],0,0,some (161,iW t23_133),[]⟩,⟨[13,14],0,0,some (162,iW (IntKind.wrap .i64 (t22_114 - t23_133))),[]⟩,⟨[12,15],0,0,some (163,.ptr 1 (0 + ((IntKind.wrap .i64 (t22_114 - t23_133))).toNat * 2)),[]⟩,⟨[16],0,0,some (164,.agg [rW false y_134.Pattern eW,iW y_134.Count]),[]⟩,⟨[0],0,0,some (165,.own 1 2 0 a0_b.length),[]⟩,⟨[10],0,0,some (166,iW t23_133),[]⟩,⟨[18,19],0,0,some (167,.ptr 1 (0 + (t23_133).toNat * 2)),[]⟩,⟨[20],0,0,some (168,.agg [rW false y_135.Pattern eW,iW y_135.Count]),[]⟩,⟨[11,17,21],0,0,some (169,iW y_136),[]⟩,⟨[22],0,0,some (170,bW (decide (y_136 < (0 : Int)))),[]⟩,⟨[23],0,0,some (171,bW (!(decide (y_136 < (0 : Int))))),[]⟩] [] [[(1,⟨57,true,a0_b.flatMap encR56⟩)]] [[],[],[],[],[2,3],[1,2,3,4],[1,2,3,4,5],[],[],[7,8],[7,8,9],[0,1,2,3,4,5,6,7,8,9,10],[0,1,2,3,4,5,6,7,8,9,10,11],[0,1,2,3,4,5,6,7,8,9,10,11,12]] (by kernel_rfl) (by kernel_rfl) (BornL.ok (.o<| .o<| .o<| .o<| .o<| .o<| .o<| .o<| .o<| .o<| .o<| .b rfl rfl<| .b rfl rfl<| .b rfl rfl<| .b rfl rfl<| .b rfl rfl<| .b rfl rfl<| .b rfl rfl<| .b rfl rfl<| .b rfl rfl<| .b rfl rfl<| .b rfl rfl<| .b rfl rfl<| .b rfl rfl<| .b rfl rfl<| .n)) (BaseL.ok (.o rfl<| .o rfl<| .o rfl<| .o rfl<| .o rfl<| .o rfl<| .o rfl<| .o rfl<| .o rfl<| .o rfl<| .o rfl<| .b<| .b<| .b<| .b<| .b<| .b<| .b<| .b<| .b<| .b<| .b<| .b<| .b<| .b<| .n)) rfl (by decide) (allLt rfl) (.pure rfl (fun H => .put (fun E hE => .move (lt1 rfl) (.tmp (hE.at (k := 0) rfl))))<| .read rfl (.c (.put (fun E hE => .move (lt1 rfl) (.tmp (hE.at (k := 0) rfl)))) .n)<| .pure rfl (fun H => .put (fun E hE => .move (lt1 rfl) (.tmp (hE.at (k := 0) rfl))))<| .pure rfl (fun H => .put (fun E hE => .move (lt1 rfl) (.tmp (hE.at (k := 0) rfl))))<| .pure rfl (fun H => .put (fun E hE => .sub (lt1 rfl) (.tmp (hE.at (k := 0) rfl)) (.tmp (hE.at (k := 1) rfl))))<| .read rfl (.c (.put (fun E hE => .idxOwn (lt1 rfl) (.tmp (hE.at (k := 0) rfl)) (.tmp (hE.at (k := 1) rfl)) Try.underlying52 sz57 rfl hy_134)) .n)<| .read rfl (.c (.put (fun E hE => .loadPA (lt1 rfl) (.tmp (hE.at (k := 0) rfl)) agg57 rfl (cells_at encR56_len hy_134) rfl rfl)) .n)<| .read rfl (.c (.put (fun E hE => .move (lt1 rfl) (.tmp (hE.at (k := 0) rfl)))) .n)<| .pure rfl (fun H => .put (fun E hE => .move (lt1 rfl) (.tmp (hE.at (k := 0) rfl))))<| .read rfl (.c (.put (fun E hE => .idxOwn (lt1 rfl) (.tmp (hE.at (k := 0) rfl)) (.tmp (hE.at (k := 1) rfl)) Try.underlying52 sz57 rfl hy_135)) .n)<| .read rfl (.c (.put (fun E hE => .loadPA (lt1 rfl) (.tmp (hE.at (k := 0) rfl)) agg57 rfl (cells_at encR56_len hy_135) rfl rfl)) .n)<| .read rfl (.c (.put (fun E hE => .keep (bw := false) (AStep.callV (us' := []) (avs := [.agg [rW false ((R56.mk y_134.Pattern y_134.Count).Pattern) eW,iW ((R56.mk y_134.Pattern y_134.Count).Count)],.agg [rW false ((R56.mk y_135.Pattern y_135.Count).Pattern) eW,iW ((R56.mk y_135.Pattern y_135.Count).Count)]]) (cs' := []) (σ := sgT []) (bw := false) (lt1 rfl) (.tmp (hE.at (k := 0) rfl)) (c57 (β1 := false) (β2 := false) n (R56.mk y_134.Pattern y_134.Count) (R56.mk y_135.Pattern y_135.Count) hy_136) (.nil) (.cons (.tmp (hE.at (k := 1) rfl)) (.ren rfl) (.cons (.tmp (hE.at (k := 2) rfl)) (.ren rfl) (.nil))) (.nil) (CallOk.mk' (.n) rfl) (fun _ h => by cases h)) (CallOk.mk' (.n) rfl) rfl rfl)) .n)<| .pure rfl (fun H => .put (fun E hE => .lss (lt1 rfl) (.tmp (hE.at (k := 0) rfl)) (.const _ _ _)))<| .pure rfl (fun H => .put (fun E hE => .not (lt1 rfl) (.tmp (hE.at (k := 0) rfl))))<| .nil _) (fun E hE => .c (DInv.at hE (k := 0) rfl rfl rfl)<| .c (DInv.at hE (k := 1) rfl rfl rfl)<| .c (DInv.at hE (k := 2) rfl rfl rfl)<| .c (DInv.at hE (k := 3) rfl rfl rfl)<| .c (DInv.at hE (k := 4) rfl rfl rfl)<| .c (DInv.at hE (k := 5) rfl rfl rfl)<| .c (DInv.at hE (k := 6) rfl rfl rfl)<| .c (DInv.at hE (k := 7) rfl rfl rfl)<| .c (DInv.at hE (k := 8) rfl rfl rfl)<| .c (DInv.at hE (k := 9) rfl rfl rfl)<| .c (DInv.at hE (k := 10) rfl rfl rfl)<| .c (DInv.at hE (k := 24) rfl rfl rfl)<| .n _) rfl ?_
      refine AWP.vc (s' := ⟨[(0,.own 1 2 0 a0_b.length),(1,iW a1),(2,iW a2),(3,iW a3),(4,.clo (.func 57) [] []),(18,iW t18_109),(19,iW t19_110),(20,iW x_131.1),(21,iW x_131.2),(22,iW t22_114),(23,iW t23_133),(171,bW (!(decide (y_136 < (0 : Int)))))],[(1,⟨57,true,a0_b.flatMap encR56⟩)]⟩) (VC.sub (.of rfl) (.of rfl)) ?_
      refine AWP.join' (S := fun p_138 : Int × Int => ⟨[(0,.own 1 2 0 a0_b.length),(1,iW a1),(2,iW a2),(3,iW a3),(4,.clo (.func 57) [] []),(18,iW t18_109),(19,iW t19_110),(20,iW p_138.1),(21,iW p_138.2),(22,iW t22_114)],[(1,⟨57,true,a0_b.flatMap encR56⟩)]⟩) h (fun p_138 h => ?_) (fun k_139 h => ?_)
      ·exact endJ (p_138.1,p_138.2) h (VC.sub (.of rfl) (.of rfl))
      ·refine AWP.cond (.t rfl) (fun hc => ?_) (fun hc => ?_)
       ·have h := iteT hc h
        obtain ⟨t20_137,ht20_137,h⟩ := letS h
        refine AWP.region (.cons (.move (lt1 rfl) (.t rfl))<| .cons (.add (lt1 rfl) (.t rfl) (.const _ _ _))<| .cons (.assign (lt1 rfl) (.t rfl))<| ARun.nil _ _ _) ?_
        exact endJ (t20_137,x_131.2) h (by subst ht20_137; exact VC.sub (.of rfl) (.of rfl))
       ·have h := iteF hc h
        refine AWP.region (.cons (.move (lt1 rfl) (.t rfl))<| .cons (.assign (lt1 rfl) (.t rfl))<| ARun.nil _ _ _) ?_
        exact endJ (x_131.1,t23_133) h (VC.sub (.of rfl) (.of rfl))
     ·have h := iteF hc h
      refine AWP.exit ?_
      exact endJ x_131.1 h (VC.sub (.of rfl) (.of rfl))
   ·refine AWP.cond (.t rfl) (fun hc => ?_) (fun hc => ?_)
    ·have h := iteT hc h
     refine AWP.seq ?_
     obtain ⟨t20_111,ht20_111,h⟩ := letS h
     refine AWP.region (.cons (.move (lt1 rfl) (.t rfl))<| .cons (.move (lt1 rfl) (.t rfl))<| .cons (.sub (lt1 rfl) (.t rfl) (.t rfl))<| .cons (.assign (lt1 rfl) (.t rfl))<| ARun.nil _ _ _) ?_
     refine AWP.vc (s' := ⟨[(0,.own 1 2 0 a0_b.length),(1,iW a1),(2,iW a2),(3,iW a3),(4,.clo (.func 57) [] []),(18,iW t18_109),(19,iW t19_110),(20,iW t20_111)],[(1,⟨57,true,a0_b.flatMap encR56⟩)]⟩) (by subst ht20_111; exact VC.sub (.of rfl) (.of rfl)) ?_
     refine AWP.region (.cons (.move (lt1 rfl) (.t rfl))<| .cons (.assign (lt1 rfl) (.t rfl))<| ARun.nil _ _ _) ?_
     exact endJ (t20_111,t18_109) h (VC.sub (.of rfl) (.of rfl))
    ·have h := iteF hc h
     refine AWP.seq ?_
     refine AWP.region (.cons (.move (lt1 rfl) (.t rfl))<| .cons (.assign (lt1 rfl) (.t rfl))<| ARun.nil _ _ _) ?_
     refine AWP.vc (s' := ⟨[(0,.own 1 2 0 a0_b.length),(1,iW a1),(2,iW a2),(3,iW a3),(4,.clo (.func 57) [] []),(18,iW t18_109),(19,iW t19_110),(20,iW a1)],[(1,⟨57,true,a0_b.flatMap encR56⟩)]⟩) (VC.sub (.of rfl) (.of rfl)) ?_
     refine AWP.region (.cons (.move (lt1 rfl) (.t rfl))<| .cons (.assign (lt1 rfl) (.t rfl))<| ARun.nil _ _ _) ?_
     exact endJ (a1,a2) h (VC.sub (.of rfl) (.of rfl))
theorem c76 (n : Nat) (a0_b : (List R56)) (a1 : Int) (a2 : Int) (a3 : Int) {r : (List R56)} (h : m76 n a0_b a1 a2 a3 = some r) : Spec Try.prog 76 [1] [.own 1 2 0 a0_b.length,iW a1,iW a2,iW a3,.clo (.func 57) [] []] [(1,⟨57,true,a0_b.flatMap encR56⟩)] (.tup []) [(1,⟨57,true,r.flatMap encR56⟩)] := c76F n n a0_b a1 a2 a3 h
theorem c65 (n : Nat) (a0_b : (List R56)) (a1 : Int) {r : (List R56)} (h : m65 n a0_b a1 = some r) : Spec Try.prog 65 [1] [.own 1 2 0 a0_b.length,iW a1,.clo (.func 57) [] []] [(1,⟨57,true,a0_b.flatMap encR56⟩)] (.tup []) [(1,⟨57,true,r.flatMap encR56⟩)] := by
 refine Spec.of (fn := Try.f65) Try.func65 Try.ntmps65 rfl rfl (le1 rfl) (fun w0 Zs Zb T0 ι0 => ?_)
 unfold m65 at h
 refine AWP.seq ?_
 refine AWP.region (.cons (.assign (lt1 rfl) (.const _ _ _))<| ARun.nil _ _ _) ?_
 refine AWP.vc (s' := ⟨[(0,.own 1 2 0 a0_b.length),(1,iW a1),(2,.clo (.func 57) [] []),(6,iW (20 : Int))],[(1,⟨57,true,a0_b.flatMap encR56⟩)]⟩) (VC.sub (.of rfl) (.of rfl)) ?_
 refine AWP.seq ?_
 refine AWP.region (.cons (.move (lt1 rfl) (.t rfl))<| .cons (.assign (lt1 rfl) (.const _ _ _))<| .cons (.assign (lt1 rfl) (.t rfl))<| ARun.nil _ _ _) ?_
 refine AWP.vc (s' := ⟨[(0,.own 1 2 0 a0_b.length),(1,iW a1),(2,.clo (.func 57) [] []),(6,iW (20 : Int)),(7,iW (0 : Int)),(8,iW (20 : Int))],[(1,⟨57,true,a0_b.flatMap encR56⟩)]⟩) (VC.sub (.of rfl) (.of rfl)) ?_
 refine AWP.seq ?_
 refine AWP.joinB' (S := fun p_14 : Int × (List R56) => ⟨[(0,.own 1 2 0 p_14.2.length),(1,iW a1),(2,.clo (.func 57) [] []),(6,iW (20 : Int)),(7,iW p_14.1)],[(1,⟨57,true,p_14.2.flatMap encR56⟩)]⟩) h (fun p_14 h => ?_) (fun k_15 h => ?_)
 ·refine AWP.seq ?_
  obtain ⟨y_16,hy_16,h⟩ := bindS h
  obtain ⟨ha_17,h⟩ := asrtS h
  refine AWP.region (.cons (.move (lt1 rfl) (.t rfl))<| .cons (.move (lt1 rfl) (.t rfl))<| .cons (.move (lt1 rfl) (.t rfl))<| .cons (.move (lt1 rfl) (.t rfl))<| .cons (.call (σ := fun _ => 1) (bw := false) (lt1 rfl) (c75 n p_14.2 p_14.1 a1 hy_16) (.cons (.t rfl) (.ren rfl) (.cons (.t rfl) (.ren rfl) (.cons (.t rfl) (.ren rfl) (.cons (.t rfl) (.ren rfl) (.nil))))) (CallOk.mk' (.c rfl (.n)) rfl))<| ARun.nil _ _ _) ?_
  refine AWP.vc (s' := ⟨[(0,.own 1 2 0 y_16.length),(1,iW a1),(2,.clo (.func 57) [] []),(6,iW (20 : Int))],[(1,⟨57,true,y_16.flatMap encR56⟩)]⟩) (VC.sub (.c (lenC (Eq.symm (Eq.symm ha_17)) rfl)<| .c rfl<| .c rfl<| .c rfl<| .n _) (.of rfl)) ?_
  refine AWP.joinB' (S := fun p_88 : (List R56) => ⟨[],[(1,⟨57,true,p_88.flatMap encR56⟩)]⟩) h (fun p_88 h => ?_) (fun k_89 h => ?_)
  ·obtain rfl := Option.some.inj h
   refine norJ (Res.vc (s' := ⟨[],[(1,⟨57,true,p_88.flatMap encR56⟩)]⟩) (VC.sub (.n _) (.of rfl)) ?_)
   refine Res.sub (H := [(1,⟨57,true,p_88.flatMap encR56⟩)]) (.of rfl) ?_
   exact Res.of rfl (.nil) rfl rfl
  ·refine AWP.vc (s' := ⟨[(0,.own 1 2 0 y_16.length),(1,iW a1),(2,.clo (.func 57) [] []),(6,iW (20 : Int))],[(1,⟨57,true,y_16.flatMap encR56⟩)]⟩) (VC.sub (.of rfl) (.of rfl)) ?_
   refine AWP.loopM (S := fun x_64 : Int × (List R56) => ⟨[(0,.own 1 2 0 x_64.2.length),(1,iW a1),(2,.clo (.func 57) [] []),(6,iW x_64.1)],[(1,⟨57,true,x_64.2.flatMap encR56⟩)]⟩) (x := ((20 : Int),y_16)) (fun nx_65 x_64 h => ?_) h
   unfold m65_L4 at h
   refine AWP.seq ?_
   refine AWP.seq ?_
   refine AWP.region (.cons (.move (lt1 rfl) (.t rfl))<| .cons (.move (lt1 rfl) (.t rfl))<| .cons (.lss (lt1 rfl) (.t rfl) (.t rfl))<| ARun.nil _ _ _) ?_
   refine AWP.vc (s' := ⟨[(0,.own 1 2 0 x_64.2.length),(1,iW a1),(2,.clo (.func 57) [] []),(6,iW x_64.1),(30,bW (decide (x_64.1 < a1)))],[(1,⟨57,true,x_64.2.flatMap encR56⟩)]⟩) (VC.sub (.of rfl) (.of rfl)) ?_
   refine AWP.cond (.t rfl) (fun hc => ?_) (fun hc => ?_)
   ·have h := iteT hc h
    refine AWP.skip ?_
    refine AWP.block ?_
    refine AWP.seq ?_
    obtain ⟨t8_66,ht8_66,h⟩ := letS h
    refine AWP.region (.cons (.move (lt1 rfl) (.t rfl))<| .cons (.mul (lt1 rfl) (.const _ _ _) (.t rfl))<| .cons (.assign (lt1 rfl) (.const _ _ _))<| .cons (.assign (lt1 rfl) (.t rfl))<| ARun.nil _ _ _) ?_
    refine AWP.vc (s' := ⟨[(0,.own 1 2 0 x_64.2.length),(1,iW a1),(2,.clo (.func 57) [] []),(6,iW x_64.1),(7,iW (0 : Int)),(8,iW t8_66)],[(1,⟨57,true,x_64.2.flatMap encR56⟩)]⟩) (by subst ht8_66; exact VC.sub (.of rfl) (.of rfl)) ?_
    refine AWP.seq ?_
    refine AWP.joinB' (S := fun p_80 : Int × (List R56) => ⟨[(0,.own 1 2 0 p_80.2.length),(1,iW a1),(2,.clo (.func 57) [] []),(6,iW x_64.1),(7,iW p_80.1)],[(1,⟨57,true,p_80.2.flatMap encR56⟩)]⟩) h (fun p_80 h => ?_) (fun k_81 h => ?_)
    ·refine AWP.seq ?_
     refine AWP.seq ?_
     obtain ⟨t9_82,ht9_82,h⟩ := letS h
     refine AWP.region (.cons (.move (lt1 rfl) (.t rfl))<| .cons (.move (lt1 rfl) (.t rfl))<| .cons (.add (lt1 rfl) (.t rfl) (.t rfl))<| .cons (.assign (lt1 rfl) (.t rfl))<| ARun.nil _ _ _) ?_
     refine AWP.vc (s' := ⟨[(0,.own 1 2 0 p_80.2.length),(1,iW a1),(2,.clo (.func 57) [] []),(6,iW x_64.1),(7,iW p_80.1),(9,iW t9_82)],[(1,⟨57,true,p_80.2.flatMap encR56⟩)]⟩) (by subst ht9_82; exact VC.sub (.of rfl) (.of rfl)) ?_
     refine AWP.seq ?_
     refine AWP.region (.cons (.move (lt1 rfl) (.t rfl))<| .cons (.move (lt1 rfl) (.t rfl))<| .cons (.lss (lt1 rfl) (.t rfl) (.t rfl))<| ARun.nil _ _ _) ?_
     refine AWP.vc (s' := ⟨[(0,.own 1 2 0 p_80.2.length),(1,iW a1),(2,.clo (.func 57) [] []),(6,iW x_64.1),(7,iW p_80.1),(9,iW t9_82),(54,bW (decide (t9_82 < a1)))],[(1,⟨57,true,p_80.2.flatMap encR56⟩)]⟩) (VC.sub (.of rfl) (.of rfl)) ?_
     refine AWP.join' (S := fun p_85 : (List R56) => ⟨[(0,.own 1 2 0 p_85.length),(1,iW a1),(2,.clo (.func 57) [] []),(6,iW x_64.1)],[(1,⟨57,true,p_85.flatMap encR56⟩)]⟩) h (fun p_85 h => ?_) (fun k_86 h => ?_)
     ·obtain ⟨t6_87,ht6_87,h⟩ := letS h
      refine AWP.region (.cons (.move (lt1 rfl) (.t rfl))<| .cons (.mul (lt1 rfl) (.t rfl) (.const _ _ _))<| .cons (.assign (lt1 rfl) (.t rfl))<| ARun.nil _ _ _) ?_
      exact endJ (t6_87,p_85) h (by subst ht6_87; exact VC.sub (.of rfl) (.of rfl))
     ·refine AWP.cond (.t rfl) (fun hc => ?_) (fun hc => ?_)
      ·have h := iteT hc h
       obtain ⟨y_83,hy_83,h⟩ := bindS h
       obtain ⟨ha_84,h⟩ := asrtS h
       refine AWP.region (.cons (.move (lt1 rfl) (.t rfl))<| .cons (.move (lt1 rfl) (.t rfl))<| .cons (.move (lt1 rfl) (.t rfl))<| .cons (.move (lt1 rfl) (.t rfl))<| .cons (.move (lt1 rfl) (.t rfl))<| .cons (.call (σ := fun _ => 1) (bw := false) (lt1 rfl) (c76 n p_80.2 p_80.1 t9_82 a1 hy_83) (.cons (.t rfl) (.ren rfl) (.cons (.t rfl) (.ren rfl) (.cons (.t rfl) (.ren rfl) (.cons (.t rfl) (.ren rfl) (.cons (.t rfl) (.ren rfl) (.nil)))))) (CallOk.mk' (.c rfl (.n)) rfl))<| ARun.nil _ _ _) ?_
       exact endJ y_83 h (VC.sub (.c (lenC (Eq.symm (Eq.symm ha_84)) rfl)<| .c rfl<| .c rfl<| .c rfl<| .n _) (.of rfl))
      ·have h := iteF hc h
       refine AWP.skip ?_
       exact endJ p_80.2 h (VC.sub (.of rfl) (.of rfl))
    ·refine AWP.vc (s' := ⟨[(0,.own 1 2 0 x_64.2.length),(1,iW a1),(2,.clo (.func 57) [] []),(6,iW x_64.1),(7,iW (0 : Int)),(8,iW t8_66)],[(1,⟨57,true,x_64.2.flatMap encR56⟩)]⟩) (VC.sub (.of rfl) (.of rfl)) ?_
     refine AWP.loopM (S := fun x_75 : Int × Int × (List R56) => ⟨[(0,.own 1 2 0 x_75.2.2.length),(1,iW a1),(2,.clo (.func 57) [] []),(6,iW x_64.1),(7,iW x_75.1),(8,iW x_75.2.1)],[(1,⟨57,true,x_75.2.2.flatMap encR56⟩)]⟩) (x := ((0 : Int),t8_66,x_64.2)) (fun nx_76 x_75 h => ?_) h
     unfold m65_L5 at h
     refine AWP.seq ?_
     refine AWP.seq ?_
     refine AWP.region (.cons (.move (lt1 rfl) (.t rfl))<| .cons (.move (lt1 rfl) (.t rfl))<| .cons (.leq (lt1 rfl) (.t rfl) (.t rfl))<| ARun.nil _ _ _) ?_
     refine AWP.vc (s' := ⟨[(0,.own 1 2 0 x_75.2.2.length),(1,iW a1),(2,.clo (.func 57) [] []),(6,iW x_64.1),(7,iW x_75.1),(8,iW x_75.2.1),(35,bW (decide (x_75.2.1 ≤ a1)))],[(1,⟨57,true,x_75.2.2.flatMap encR56⟩)]⟩) (VC.sub (.of rfl) (.of rfl)) ?_
     refine AWP.cond (.t rfl) (fun hc => ?_) (fun hc => ?_)
     ·have h := iteT hc h
      refine AWP.skip ?_
      refine AWP.block ?_
      refine AWP.seq ?_
      obtain ⟨y_77,hy_77,h⟩ := bindS h
      obtain ⟨ha_78,h⟩ := asrtS h
      refine AWP.region (.cons (.move (lt1 rfl) (.t rfl))<| .cons (.move (lt1 rfl) (.t rfl))<| .cons (.move (lt1 rfl) (.t rfl))<| .cons (.move (lt1 rfl) (.t rfl))<| .cons (.add (lt1 rfl) (.t rfl) (.t rfl))<| .cons (.move (lt1 rfl) (.t rfl))<| .cons (.move (lt1 rfl) (.t rfl))<| .cons (.call (σ := fun _ => 1) (bw := false) (lt1 rfl) (c76 n x_75.2.2 x_75.1 (IntKind.wrap .i64 (x_75.1 + x_64.1)) x_75.2.1 hy_77) (.cons (.t rfl) (.ren rfl) (.cons (.t rfl) (.ren rfl) (.cons (.t rfl) (.ren rfl) (.cons (.t rfl) (.ren rfl) (.cons (.t rfl) (.ren rfl) (.nil)))))) (CallOk.mk' (.c rfl (.n)) rfl))<| ARun.nil _ _ _) ?_
      refine AWP.vc (s' := ⟨[(0,.own 1 2 0 y_77.length),(1,iW a1),(2,.clo (.func 57) [] []),(6,iW x_64.1),(8,iW x_75.2.1)],[(1,⟨57,true,y_77.flatMap encR56⟩)]⟩) (VC.sub (.c (lenC (Eq.symm (Eq.symm ha_78)) rfl)<| .c rfl<| .c rfl<| .c rfl<| .c rfl<| .n _) (.of rfl)) ?_
      refine AWP.seq ?_
      refine AWP.region (.cons (.move (lt1 rfl) (.t rfl))<| .cons (.assign (lt1 rfl) (.t rfl))<| ARun.nil _ _ _) ?_
      refine AWP.vc (s' := ⟨[(0,.own 1 2 0 y_77.length),(1,iW a1),(2,.clo (.func 57) [] []),(6,iW x_64.1),(8,iW x_75.2.1),(7,iW x_75.2.1)],[(1,⟨57,true,y_77.flatMap encR56⟩)]⟩) (VC.sub (.of rfl) (.of rfl)) ?_
      obtain ⟨t8_79,ht8_79,h⟩ := letS h
      refine AWP.region (.cons (.move (lt1 rfl) (.t rfl))<| .cons (.move (lt1 rfl) (.t rfl))<| .cons (.mul (lt1 rfl) (.const _ _ _) (.t rfl))<| .cons (.add (lt1 rfl) (.t rfl) (.t rfl))<| .cons (.assign (lt1 rfl) (.t rfl))<| ARun.nil _ _ _) ?_
      exact endJ (x_75.2.1,t8_79,y_77) h (by subst ht8_79; exact VC.sub (.of rfl) (.of rfl))
     ·have h := iteF hc h
      refine AWP.exit ?_
      exact endJ (x_75.1,x_75.2.2) h (VC.sub (.of rfl) (.of rfl))
   ·have h := iteF hc h
    refine AWP.exit ?_
    exact endJ x_64.2 h (VC.sub (.n _) (.of rfl))
 ·refine AWP.vc (s' := ⟨[(0,.own 1 2 0 a0_b.length),(1,iW a1),(2,.clo (.func 57) [] []),(6,iW (20 : Int)),(7,iW (0 : Int)),(8,iW (20 : Int))],[(1,⟨57,true,a0_b.flatMap encR56⟩)]⟩) (VC.sub (.of rfl) (.of rfl)) ?_
  refine AWP.loopM (S := fun x_9 : Int × Int × (List R56) => ⟨[(0,.own 1 2 0 x_9.2.2.length),(1,iW a1),(2,.clo (.func 57) [] []),(6,iW (20 : Int)),(7,iW x_9.1),(8,iW x_9.2.1)],[(1,⟨57,true,x_9.2.2.flatMap encR56⟩)]⟩) (x := ((0 : Int),(20 : Int),a0_b)) (fun nx_10 x_9 h => ?_) h
  unfold m65_L1 at h
  refine AWP.seq ?_
  refine AWP.seq ?_
  refine AWP.region (.cons (.move (lt1 rfl) (.t rfl))<| .cons (.move (lt1 rfl) (.t rfl))<| .cons (.leq (lt1 rfl) (.t rfl) (.t rfl))<| ARun.nil _ _ _) ?_
  refine AWP.vc (s' := ⟨[(0,.own 1 2 0 x_9.2.2.length),(1,iW a1),(2,.clo (.func 57) [] []),(6,iW (20 : Int)),(7,iW x_9.1),(8,iW x_9.2.1),(13,bW (decide (x_9.2.1 ≤ a1)))],[(1,⟨57,true,x_9.2.2.flatMap encR56⟩)]⟩) (VC.sub (.of rfl) (.of rfl)) ?_
  refine AWP.cond (.t rfl) (fun hc => ?_) (fun hc => ?_)
  ·have h := iteT hc h
   refine AWP.skip ?_
   refine AWP.block ?_
   refine AWP.seq ?_
   obtain ⟨y_11,hy_11,h⟩ := bindS h
   obtain ⟨ha_12,h⟩ := asrtS h
   refine AWP.region (.cons (.move (lt1 rfl) (.t rfl))<| .cons (.move (lt1 rfl) (.t rfl))<| .cons (.move (lt1 rfl) (.t rfl))<| .cons (.move (lt1 rfl) (.t rfl))<| .cons (.call (σ := fun _ => 1) (bw := false) (lt1 rfl) (c75 n x_9.2.2 x_9.1 x_9.2.1 hy_11) (.cons (.t rfl) (.ren rfl) (.cons (.t rfl) (.ren rfl) (.cons (.t rfl) (.ren rfl) (.cons (.t rfl) (.ren rfl) (.nil))))) (CallOk.mk' (.c rfl (.n)) rfl))<| ARun.nil _ _ _) ?_
   refine AWP.vc (s' := ⟨[(0,.own 1 2 0 y_11.length),(1,iW a1),(2,.clo (.func 57) [] []),(6,iW (20 : Int)),(8,iW x_9.2.1)],[(1,⟨57,true,y_11.flatMap encR56⟩)]⟩) (VC.sub (.c (lenC (Eq.symm (Eq.symm ha_12)) rfl)<| .c rfl<| .c rfl<| .c rfl<| .c rfl<| .n _) (.of rfl)) ?_
   refine AWP.seq ?_
   refine AWP.region (.cons (.move (lt1 rfl) (.t rfl))<| .cons (.assign (lt1 rfl) (.t rfl))<| ARun.nil _ _ _) ?_
   refine AWP.vc (s' := ⟨[(0,.own 1 2 0 y_11.length),(1,iW a1),(2,.clo (.func 57) [] []),(6,iW (20 : Int)),(8,iW x_9.2.1),(7,iW x_9.2.1)],[(1,⟨57,true,y_11.flatMap encR56⟩)]⟩) (VC.sub (.of rfl) (.of rfl)) ?_
   obtain ⟨t8_13,ht8_13,h⟩ := letS h
   refine AWP.region (.cons (.move (lt1 rfl) (.t rfl))<| .cons (.move (lt1 rfl) (.t rfl))<| .cons (.add (lt1 rfl) (.t rfl) (.t rfl))<| .cons (.assign (lt1 rfl) (.t rfl))<| ARun.nil _ _ _) ?_
   exact endJ (x_9.2.1,t8_13,y_11) h (by subst ht8_13; exact VC.sub (.of rfl) (.of rfl))
  ·have h := iteF hc h
   refine AWP.exit ?_
   exact endJ (x_9.1,x_9.2.2) h (VC.sub (.of rfl) (.of rfl))
theorem c56 (n : Nat) (a0_b : (List R56)) {r : (List R56)} (h : m56 n a0_b = some r) : Spec Try.prog 56 [1] [.own 1 2 0 a0_b.length,.clo (.func 57) [] []] [(1,⟨57,true,a0_b.flatMap encR56⟩)] (.tup []) [(1,⟨57,true,r.flatMap encR56⟩)] := by
 refine Spec.of (fn := Try.f56) Try.func56 Try.ntmps56 rfl rfl (le1 rfl) (fun w0 Zs Zb T0 ι0 => ?_)
 unfold m56 at h
 obtain ⟨y_1,hy_1,h⟩ := bindS h
 obtain ⟨ha_2,h⟩ := asrtS h
 refine AWP.region (.cons (.move (lt1 rfl) (.t rfl))<| .cons (.move (lt1 rfl) (.t rfl))<| .cons (.lenOwn (lt1 rfl) (.t rfl) Try.underlying53)<| .cons (.move (lt1 rfl) (.t rfl))<| .cons (.call (σ := fun _ => 1) (bw := false) (lt1 rfl) (c65 n a0_b (a0_b.length : Int) hy_1) (.cons (.t rfl) (.ren rfl) (.cons (.t rfl) (.ren rfl) (.cons (.t rfl) (.ren rfl) (.nil)))) (CallOk.mk' (.c rfl (.n)) rfl))<| ARun.nil _ _ _) ?_
 obtain rfl := Option.some.inj h
 refine norJ (Res.vc (s' := ⟨[],[(1,⟨57,true,y_1.flatMap encR56⟩)]⟩) (VC.sub (.n _) (.of rfl)) ?_)
 refine Res.sub (H := [(1,⟨57,true,y_1.flatMap encR56⟩)]) (.of rfl) ?_
 exact Res.of rfl (.nil) rfl rfl
theorem c31 (n : Nat) (a0 : (List R56)) {r : (List R56)} (h : m31 n a0 = some r) : Spec Try.prog 31 [] [rW false a0 encR56] [] (rW false r encR56) [] := by
 refine Spec.of (fn := Try.f31) Try.func31 Try.ntmps31 rfl rfl (le1 rfl) (fun w0 Zs Zb T0 ι0 => ?_)
 unfold m31 at h
 refine AWP.seq ?_
 refine AWP.region (.cons (.assign (lt1 rfl) (.const _ _ _))<| ARun.nil _ _ _) ?_
 refine AWP.vc (s' := ⟨[(0,rW false a0 encR56)],[]⟩) (VC.sub (.of rfl) (.n _)) ?_
 refine AWP.seq ?_
 refine AWP.region (.cons (.assign (lt1 rfl) (.const _ _ _))<| ARun.nil _ _ _) ?_
 refine AWP.vc (s' := ⟨[(0,rW false a0 encR56),(3,.sc (.slice none 0 0))],[]⟩) (VC.sub (.of rfl) (.n _)) ?_
 refine AWP.seq ?_
 refine AWP.seq ?_
 refine AWP.region (.cons (.move (lt1 rfl) (.t rfl))<| .cons (.lenRd (lt1 rfl) (.t rfl) Try.underlying53)<| .cons (.move (lt1 rfl) (.const _ _ _))<| ARun.nil _ _ _) ?_
 refine AWP.vc (s' := ⟨[(3,.sc (.slice none 0 0)),(7,rW false a0 encR56),(8,iW (a0.length : Int)),(9,iW (0 : Int))],[]⟩) (VC.sub (.of rfl) (.n _)) ?_
 refine AWP.joinB' (S := fun p_35 : (List R56) => ⟨[(3,.own 1 2 0 p_35.length)],[(1,⟨57,true,p_35.flatMap encR56⟩)]⟩) h (fun p_35 h => ?_) (fun k_36 h => ?_)
 ·refine AWP.seq ?_
  obtain ⟨y_37,hy_37,h⟩ := bindS h
  refine AWP.region (.cons (.move (lt1 rfl) (.t rfl))<| .cons (.call (σ := fun _ => 1) (bw := false) (lt1 rfl) (c54o n p_35 hy_37) (.cons (.t rfl) (.ren rfl) (.cons (.func _ _ _) (.ren rfl) (.nil))) (CallOk.mk' (.c rfl (.n)) rfl))<| .cons (.assign (lt1 rfl) (.t rfl))<| ARun.nil _ _ _) ?_
  refine AWP.vc (s' := ⟨[(3,.own 1 2 0 y_37.length)],[(1,⟨57,true,y_37.flatMap encR56⟩)]⟩) (VC.sub (.of rfl) (.of rfl)) ?_
  refine AWP.seq ?_
  obtain ⟨y_38,hy_38,h⟩ := bindS h
  obtain ⟨ha_39,h⟩ := asrtS h
  refine AWP.region (.cons (.move (lt1 rfl) (.t rfl))<| .cons (.call (σ := fun _ => 1) (bw := false) (lt1 rfl) (c56 n y_37 hy_38) (.cons (.t rfl) (.ren rfl) (.cons (.func _ _ _) (.ren rfl) (.nil))) (CallOk.mk' (.c rfl (.n)) rfl))<| ARun.nil _ _ _) ?_
  refine AWP.vc (s' := ⟨[(3,.own 1 2 0 y_38.length)],[(1,⟨57,true,y_38.flatMap encR56⟩)]⟩) (VC.sub (.c (lenC (Eq.symm (Eq.symm ha_39)) rfl)<| .n _) (.of rfl)) ?_
  refine AWP.seq ?_
  refine AWP.region (.cons (.move (lt1 rfl) (.t rfl))<| .cons (.assign (lt1 rfl) (.t rfl))<| ARun.nil _ _ _) ?_
  refine AWP.ret ?_
  obtain rfl := Option.some.inj h
  refine retJ (Res.vc (s' := ⟨[(2,rW false y_38 encR56)],[]⟩) (VC.trans (VC.frz (d := 2) (t := 1) rfl rfl encR56_len) (VC.sub (.of rfl) (.n _))) ?_)
  refine Res.drop (H := []) rfl ?_
  exact Res.of rfl (.cons (.tmp rfl) (.nil)) rfl rfl
 ·refine AWP.vc (VC.nilOwn (d := 3) (t := 1) (sz := 2) (E := 57) rfl (nm rfl)) ?_
  refine AWP.vc (s' := ⟨[(3,.own 1 2 0 ([] : List R56).length),(7,rW false a0 encR56),(8,iW (a0.length : Int)),(9,iW (0 : Int))],[(1,⟨57,true,([] : List R56).flatMap encR56⟩)]⟩) (VC.sub (.of rfl) (.of rfl)) ?_
  refine AWP.loopM (S := fun x_23 : Int × (List R56) => ⟨[(3,.own 1 2 0 x_23.2.length),(7,rW false a0 encR56),(8,iW (a0.length : Int)),(9,iW x_23.1)],[(1,⟨57,true,x_23.2.flatMap encR56⟩)]⟩) (x := ((0 : Int),([] : List R56))) (fun nx_24 x_23 h => ?_) h
  unfold m31_L1 at h
  refine AWP.seq ?_
  refine AWP.region (.cons (.lss (lt1 rfl) (.t rfl) (.t rfl))<| ARun.nil _ _ _) ?_
  refine AWP.vc (s' := ⟨[(3,.own 1 2 0 x_23.2.length),(7,rW false a0 encR56),(8,iW (a0.length : Int)),(9,iW x_23.1),(10,bW (decide (x_23.1 < (a0.length : Int))))],[(1,⟨57,true,x_23.2.flatMap encR56⟩)]⟩) (VC.sub (.of rfl) (.of rfl)) ?_
  refine AWP.seq ?_
  refine AWP.cond (.t rfl) (fun hc => ?_) (fun hc => ?_)
  ·have h := iteT hc h
   refine AWP.skip ?_
   refine AWP.seq ?_
   refine AWP.block ?_
   refine AWP.seq ?_
   obtain ⟨y_25,hy_25,h⟩ := bindS h
   refine AWP.region (.cons (.indexRd (enc := encR56) (lt1 rfl) (.t rfl) (.t rfl) Try.underlying53 sz57 encR56_len rfl hy_25)<| .cons (.loadRA (out := [rW false y_25.Pattern eW,iW y_25.Count]) (lt1 rfl) (.t rfl) agg57 (Nat.le_of_eq (Eq.symm (encR56_len _))) rfl)<| .cons (.alloc (t := 2) (k := ⟨57,false,[.sc (.slice none 0 0),iW (0 : Int)]⟩) (lt1 rfl) (nm rfl) zero57 rfl rfl)<| .cons (.storePA (.t rfl) (.t rfl) sz57 rfl rfl (le1 rfl) (one_lit rfl) (by intro h; cases h) rfl)<| ARun.nil _ _ _) ?_
   refine AWP.vc (s' := ⟨[(3,.own 1 2 0 x_23.2.length),(7,rW false a0 encR56),(8,iW (a0.length : Int)),(9,iW x_23.1),(5,.ptr 2 0)],[(2,⟨57,false,[rW false y_25.Pattern eW,iW y_25.Count]⟩),(1,⟨57,true,x_23.2.flatMap encR56⟩)]⟩) (VC.sub (.of rfl) (.of rfl)) ?_
   refine AWP.seq ?_
   obtain ⟨y_26,hy_26,h⟩ := bindS h
   refine AWP.region (.cons (.move (lt1 rfl) (.t rfl))<| .cons (.makeFunc (lt1 rfl) (.nil) (.cons (.t rfl) (.nil)))<| .cons (.keep (bw := true) (AStep.call (σ := fun _ => 2) (bw := true) (lt1 rfl) (c50 (β1 := true) (β2 := false) n x_23.2 y_25.Pattern y_25.Count hy_26) (.cons (.t rfl) (.lendRow rfl rfl encR56_len rfl) (.cons (.t rfl) (.ren rfl) (.nil))) (CallOk.mk' (.c rfl (.n)) rfl)) (CallOk.mk' (.c rfl (.n)) rfl) rfl rfl)<| .cons (.assign (lt1 rfl) (.t rfl))<| ARun.nil _ _ _) ?_
   refine AWP.vc (s' := ⟨[(3,.own 1 2 0 x_23.2.length),(7,rW false a0 encR56),(8,iW (a0.length : Int)),(9,iW x_23.1),(5,.ptr 2 0),(6,iW y_26)],[(2,⟨57,false,[rW false y_25.Pattern eW,iW y_25.Count]⟩),(1,⟨57,true,x_23.2.flatMap encR56⟩)]⟩) (VC.sub (.of rfl) (.of rfl)) ?_
   refine AWP.seq ?_
   refine AWP.region (.cons (.move (lt1 rfl) (.t rfl))<| .cons (.geq (lt1 rfl) (.t rfl) (.const _ _ _))<| ARun.nil _ _ _) ?_
   refine AWP.vc (s' := ⟨[(3,.own 1 2 0 x_23.2.length),(7,rW false a0 encR56),(8,iW (a0.length : Int)),(9,iW x_23.1),(5,.ptr 2 0),(6,iW y_26),(17,bW (decide ((0 : Int) ≤ y_26)))],[(2,⟨57,false,[rW false y_25.Pattern eW,iW y_25.Count]⟩),(1,⟨57,true,x_23.2.flatMap encR56⟩)]⟩) (VC.sub (.of rfl) (.of rfl)) ?_
   refine AWP.join' (S := fun p_32 : (List R56) => ⟨[(3,.own 1 2 0 p_32.length),(7,rW false a0 encR56),(8,iW (a0.length : Int)),(9,iW x_23.1)],[(1,⟨57,true,p_32.flatMap encR56⟩)]⟩) h (fun p_32 h => ?_) (fun k_33 h => ?_)
   ·obtain ⟨t9_34,ht9_34,h⟩ := letS h
    refine AWP.region (.cons (.add (lt1 rfl) (.t rfl) (.const _ _ _))<| .cons (.move (lt1 rfl) (.t rfl))<| ARun.nil _ _ _) ?_
    exact endJ (t9_34,p_32) h (by subst ht9_34; exact VC.sub (.of rfl) (.of rfl))
   ·refine AWP.cond (.t rfl) (fun hc => ?_) (fun hc => ?_)
    ·have h := iteT hc h
     obtain ⟨y_27,hy_27,h⟩ := bindS h
     obtain ⟨y_28,hy_28,h⟩ := bindS h
     obtain ⟨l1_29,hl1_29,h⟩ := bindS h
     refine AWP.draw (s' := ⟨[(3,.own 1 2 0 x_23.2.length),(7,rW false a0 encR56),(8,iW (a0.length : Int)),(9,iW x_23.1)],[(2,⟨57,false,[rW false y_25.Pattern eW,iW y_25.Count]⟩),(1,⟨57,true,l1_29.flatMap encR56⟩)]⟩) mixed [⟨3,.own 1 2 0 x_23.2.length,none,[]⟩,⟨5,.ptr 2 0,none,[]⟩,⟨6,iW y_26,none,[]⟩,⟨7,rW false a0 encR56,none,[]⟩,⟨8,iW (a0.length : Int),none,[]⟩,⟨9,iW x_23.1,none,[]⟩,⟨17,bW (decide ((0 : Int) ≤ y_26)),none,[]⟩,⟨18,.own 1 2 0 x_23.2.length,some 0,[]⟩,⟨19,iW y_26,some 1,[]⟩,⟨20,.ptr 1 (0 + (y_26).toNat * 2),some 2,[]⟩,⟨21,.ptr 1 ((0 + (y_26).toNat * 2) + 1),some 3,[]⟩,⟨22,iW y_27.Count,some 4,[]⟩,⟨23,.ptr 2 (0 + 1),some 5,[]⟩,⟨24,iW y_25.Count,some 6,[]⟩,⟨25,iW (IntKind.wrap .i64 (y_27.Count + y_25.Count)),some 7,[]⟩,⟨26,.ptr 1 (0 + (y_26).toNat * 2),some 8,[]⟩,⟨27,.ptr 1 ((0 + (y_26).toNat * 2) + 1),some 9,[]⟩] [⟨[0],0,0,some (18,.own 1 2 0 x_23.2.length),[]⟩,⟨[2],0,1,some (19,iW y_26),[]⟩,⟨[7,8],0,0,some (20,.ptr 1 (0 + (y_26).toNat * 2)),[]⟩,⟨[9],0,0,some (21,.ptr 1 ((0 + (y_26).toNat * 2) + 1)),[]⟩,⟨[10],0,0,some (22,iW y_27.Count),[]⟩,⟨[1],0,0,some (23,.ptr 2 (0 + 1)),[]⟩,⟨[12],0,0,some (24,iW y_25.Count),[]⟩,⟨[11,13],0,1,some (25,iW (IntKind.wrap .i64 (y_27.Count + y_25.Count))),[]⟩,⟨[7,8],0,0,some (26,.ptr 1 (0 + (y_26).toNat * 2)),[]⟩,⟨[15],0,0,some (27,.ptr 1 ((0 + (y_26).toNat * 2) + 1)),[]⟩,⟨[16,14],0,0,none,[]⟩] [10] [[(2,⟨57,false,[rW false y_25.Pattern eW,iW y_25.Count]⟩),(1,⟨57,true,x_23.2.flatMap encR56⟩)],[(2,⟨57,false,[rW false y_25.Pattern eW,iW y_25.Count]⟩),(1,⟨57,true,l1_29.flatMap encR56⟩)]] [[],[],[0,1],[0,1,2],[0,1,2,3],[],[5],[0,1,2,3,4,5,6],[0,1,2,3,4,5,6,7],[0,1,2,3,4,5,6,7,8],[0,1,2,3,4,5,6,7,8,9]] (by kernel_rfl) (by kernel_rfl) (BornL.ok (.o<| .o<| .o<| .o<| .o<| .o<| .o<| .b rfl rfl<| .b rfl rfl<| .b rfl rfl<| .b rfl rfl<| .b rfl rfl<| .b rfl rfl<| .b rfl rfl<| .b rfl rfl<| .b rfl rfl<| .b rfl rfl<| .n)) (BaseL.ok (.o rfl<| .o rfl<| .o rfl<| .o rfl<| .o rfl<| .o rfl<| .o rfl<| .b<| .b<| .b<| .b<| .b<| .b<| .b<| .b<| .b<| .b<| .n)) rfl (by decide) (allLt rfl) (.read rfl (.c (.put (fun E hE => .move (lt1 rfl) (.tmp (hE.at (k := 0) rfl)))) (.n))<| .pure rfl (fun H => .put (fun E hE => .move (lt1 rfl) (.tmp (hE.at (k := 0) rfl))))<| .read rfl (.c (.put (fun E hE => .idxOwn (lt1 rfl) (.tmp (hE.at (k := 0) rfl)) (.tmp (hE.at (k := 1) rfl)) Try.underlying53 sz57 rfl hy_27)) (.n))<| .read rfl (.c (.put (fun E hE => .fieldP (lt1 rfl) (.tmp (hE.at (k := 0) rfl)) fld57_1)) (.n))<| .read rfl (.c (.put (fun E hE => .loadP (lt1 rfl) (.tmp (hE.at (k := 0) rfl)) one3 rfl (cell_at encR56_len hy_27 (lt1 rfl)) rfl)) (.n))<| .read rfl (.c (.put (fun E hE => .fieldP (lt1 rfl) (.tmp (hE.at (k := 0) rfl)) fld57_1)) (.n))<| .read rfl (.c (.put (fun E hE => .loadP (lt1 rfl) (.tmp (hE.at (k := 0) rfl)) one3 rfl rfl rfl)) (.n))<| .pure rfl (fun H => .put (fun E hE => .add (lt1 rfl) (.tmp (hE.at (k := 0) rfl)) (.tmp (hE.at (k := 1) rfl))))<| .read rfl (.c (.put (fun E hE => .idxOwn (lt1 rfl) (.tmp (hE.at (k := 0) rfl)) (.tmp (hE.at (k := 1) rfl)) Try.underlying53 sz57 rfl hy_28)) (.n))<| .read rfl (.c (.put (fun E hE => .fieldP (lt1 rfl) (.tmp (hE.at (k := 0) rfl)) fld57_1)) (.n))<| .turn rfl rfl rfl rfl rfl (.store (fun E hE => .storeP (.tmp (hE.at (k := 0) rfl)) (.tmp (hE.at (k := 1) rfl)) sz3 rfl (lt_at encR56_len hy_28 (lt1 rfl)) rfl (fun _ => rfl) (set_at encR56_len hy_28 hl1_29 (lt1 rfl) rfl)) rfl)<| .nil _) (fun E hE => .c (DInv.at hE (k := 0) rfl rfl rfl)<| .c (DInv.at hE (k := 3) rfl rfl rfl)<| .c (DInv.at hE (k := 4) rfl rfl rfl)<| .c (DInv.at hE (k := 5) rfl rfl rfl)<| .n _) rfl ?_
     exact endJ l1_29 h (VC.sub (.c (lenC (Eq.symm (setLen hl1_29)) rfl)<| .c rfl<| .c rfl<| .c rfl<| .n _) (.of rfl))
    ·have h := iteF hc h
     obtain ⟨y_30,hy_30,h⟩ := bindS h
     obtain ⟨l1_31,hl1_31,h⟩ := bindS h
     refine AWP.draw (s' := ⟨[(3,.own 1 2 0 l1_31.length),(7,rW false a0 encR56),(8,iW (a0.length : Int)),(9,iW x_23.1)],[(1,⟨57,true,l1_31.flatMap encR56⟩),(2,⟨57,false,[rW false y_25.Pattern eW,iW y_25.Count]⟩)]⟩) mixed [⟨3,.own 1 2 0 x_23.2.length,none,[8,9]⟩,⟨5,.ptr 2 0,none,[]⟩,⟨6,iW y_26,none,[]⟩,⟨7,rW false a0 encR56,none,[]⟩,⟨8,iW (a0.length : Int),none,[]⟩,⟨9,iW x_23.1,none,[]⟩,⟨17,bW (decide ((0 : Int) ≤ y_26)),none,[]⟩,⟨28,.own 1 2 0 x_23.2.length,some 0,[8]⟩,⟨29,.ptr 2 (0 + 0),some 1,[]⟩,⟨30,rW false y_25.Pattern eW,some 2,[]⟩,⟨31,rW false y_30 eW,some 3,[]⟩,⟨32,.ptr 2 (0 + 1),some 4,[]⟩,⟨33,iW y_25.Count,some 5,[]⟩,⟨34,.agg [rW false y_30 eW,iW y_25.Count],some 6,[]⟩,⟨35,rW false ([(R56.mk y_30 y_25.Count)] : List R56) encR56,some 7,[]⟩,⟨36,.own 1 2 0 l1_31.length,some 8,[]⟩,⟨3,.own 1 2 0 l1_31.length,some 9,[]⟩] [⟨[0],0,0,some (28,.own 1 2 0 x_23.2.length),[]⟩,⟨[1],0,0,some (29,.ptr 2 (0 + 0)),[]⟩,⟨[8],0,0,some (30,rW false y_25.Pattern eW),[]⟩,⟨[9],0,1,some (31,rW false y_30 eW),[]⟩,⟨[1],0,0,some (32,.ptr 2 (0 + 1)),[]⟩,⟨[11],0,0,some (33,iW y_25.Count),[]⟩,⟨[10,12],0,1,some (34,.agg [rW false y_30 eW,iW y_25.Count]),[]⟩,⟨[13],0,1,some (35,rW false ([(R56.mk y_30 y_25.Count)] : List R56) encR56),[]⟩,⟨[7,14],0,0,some (36,.own 1 2 0 l1_31.length),[1]⟩,⟨[15],1,1,some (3,.own 1 2 0 l1_31.length),[]⟩] [8] [[(2,⟨57,false,[rW false y_25.Pattern eW,iW y_25.Count]⟩),(1,⟨57,true,x_23.2.flatMap encR56⟩)],[(1,⟨57,true,l1_31.flatMap encR56⟩),(2,⟨57,false,[rW false y_25.Pattern eW,iW y_25.Count]⟩)]] [[],[],[1],[1,2],[],[4],[1,2,3,4,5],[1,2,3,4,5,6],[0,1,2,3,4,5,6,7],[0,1,2,3,4,5,6,7,8]] (by kernel_rfl) (by kernel_rfl) (BornL.ok (.o<| .o<| .o<| .o<| .o<| .o<| .o<| .b rfl rfl<| .b rfl rfl<| .b rfl rfl<| .b rfl rfl<| .b rfl rfl<| .b rfl rfl<| .b rfl rfl<| .b rfl rfl<| .b rfl rfl<| .b rfl rfl<| .n)) (BaseL.ok (.o rfl<| .o rfl<| .o rfl<| .o rfl<| .o rfl<| .o rfl<| .o rfl<| .b<| .b<| .b<| .b<| .b<| .b<| .b<| .b<| .b<| .b<| .n)) rfl (by decide) (allLt rfl) (.read rfl (.c (.put (fun E hE => .move (lt1 rfl) (.tmp (hE.at (k := 0) rfl)))) (.n))<| .read rfl (.c (.put (fun E hE => .fieldP (lt1 rfl) (.tmp (hE.at (k := 0) rfl)) fld57_0)) (.n))<| .read rfl (.c (.put (fun E hE => .loadP (lt1 rfl) (.tmp (hE.at (k := 0) rfl)) one22 rfl rfl rfl)) (.n))<| .pure rfl (fun H => .put (fun E hE => .call0 (bw := false) (lt1 rfl) (c53 (β1 := false) n y_25.Pattern hy_30) (.cons (.tmp (hE.at (k := 0) rfl)) (.ren rfl) (.nil)) rfl))<| .read rfl (.c (.put (fun E hE => .fieldP (lt1 rfl) (.tmp (hE.at (k := 0) rfl)) fld57_1)) (.n))<| .read rfl (.c (.put (fun E hE => .loadP (lt1 rfl) (.tmp (hE.at (k := 0) rfl)) one3 rfl rfl rfl)) (.n))<| .pure rfl (fun H => .put (fun E hE => .buildO (offs := [(0,1),(1,1)]) (lt1 rfl) (.cons (.tmp (hE.at (k := 0) rfl)) (by first | exact ⟨rfl,rfl⟩ | rfl) (.cons (.tmp (hE.at (k := 1) rfl)) (by first | exact ⟨rfl,rfl⟩ | rfl) (.nil))) zero57 offs57 rfl))<| .pure rfl (fun H => .put (fun E hE => .frzAny (fun t ht => AStep.buildSlice (t := t) (out := ([(R56.mk y_30 y_25.Count)] : List R56).flatMap encR56) (lt1 rfl) ht (.cons (.tmp (hE.at (k := 0) rfl)) (by first | exact ⟨rfl,rfl⟩ | rfl) (.nil)) Try.underlying53 zero57 el57 (by decide) (by decide) rfl (still_all encR56_still _)) rfl encR56_len))<| .turn rfl rfl rfl rfl rfl (.new (fun E hE => .app (enc := encR56) (lt1 rfl) (nm rfl) (.tmp (hE.at (k := 0) rfl)) (Src.rd (.tmp (hE.at (k := 1) rfl)) (flatMap_length encR56_len _) (one_all encR56_one _) (.inl rfl)) Try.underlying53 ⟨_,Try.underlying53,by intro k hk; cases hk⟩ el57 rfl encR56_len rfl rfl (by decide) hl1_31) rfl)<| .read rfl (.c (.put (fun E hE => .assign (lt1 rfl) (.tmp (hE.at (k := 0) rfl)))) (.n))<| .nil _) (fun E hE => .c (DInv.at hE (k := 16) rfl rfl rfl)<| .c (DInv.at hE (k := 3) rfl rfl rfl)<| .c (DInv.at hE (k := 4) rfl rfl rfl)<| .c (DInv.at hE (k := 5) rfl rfl rfl)<| .n _) rfl ?_
     exact endJ l1_31 h (VC.sub (.of rfl) (.of rfl))
  ·have h := iteF hc h
   refine AWP.exit ?_
   exact endJ x_23.2 h (VC.sub (.of rfl) (.of rfl))
theorem c67 {β1 : Bool} {β2 : Bool} {β3 : Bool} (n : Nat) (a0 : R56) (a1_b0 : (List Int)) (a1_b1 : (List Int)) (a1_b2 : Int) (a1_b3 : Int) {r : Bool} (h : m67 n a0 a1_b0 a1_b1 a1_b2 a1_b3 = some r) : Spec Try.prog 67 [1] [.agg [rW β1 a0.Pattern eW,iW a0.Count],.ptr 1 0] [(1,⟨32,false,[rW β2 a1_b0 eW,rW β3 a1_b1 eW,iW a1_b2,iW a1_b3]⟩)] (bW r) [(1,⟨32,false,[rW β2 a1_b0 eW,rW β3 a1_b1 eW,iW a1_b2,iW a1_b3]⟩)] := by
 refine Spec.of (fn := Try.f67) Try.func67 Try.ntmps67 rfl rfl (le1 rfl) (fun w0 Zs Zb T0 ι0 => ?_)
 unfold m67 at h
 refine AWP.seq ?_
 refine AWP.region (.cons (.box (t := 2) (n := 2) (lt1 rfl) (nm rfl) (.t rfl) (by first | exact ⟨rfl,rfl⟩ | rfl) rfl)<| .cons (.assign (lt1 rfl) (.const _ _ _))<| ARun.nil _ _ _) ?_
 refine AWP.vc (s' := ⟨[(1,.ptr 1 0),(2,.ptr 2 0)],[(2,⟨57,false,[rW β1 a0.Pattern eW,iW a0.Count]⟩),(1,⟨32,false,[rW β2 a1_b0 eW,rW β3 a1_b1 eW,iW a1_b2,iW a1_b3]⟩)]⟩) (VC.sub (.of rfl) (.of rfl)) ?_
 refine AWP.seq ?_
 obtain ⟨y_1,hy_1,h⟩ := bindS h
 refine AWP.region (.cons (.fieldP (lt1 rfl) (.t rfl) fld57_1)<| .cons (.loadP (lt1 rfl) (.t rfl) one3 rfl rfl rfl)<| .cons (.lss (lt1 rfl) (.t rfl) (.const _ _ _))<| .cons (.move (lt1 rfl) (.t rfl))<| .guard (j := 3) (dj := 7) rfl (lt1 rfl) rfl (lt1 rfl) (fun hg => .fieldP (lt1 rfl) (.t rfl) fld57_1)<| .guard (j := 3) (dj := 7) rfl (lt1 rfl) rfl (lt1 rfl) (fun hg => .loadP (lt1 rfl) (.gd hg (.t rfl)) one3 rfl rfl rfl)<| .guard (j := 3) (dj := 7) rfl (lt1 rfl) rfl (lt1 rfl) (fun hg => .gtr (lt1 rfl) (.gd hg (.t rfl)) (.const _ _ _))<| .cons (.pickOr (lt1 rfl) (.t rfl) (.const _ _ _) (.t rfl))<| .cons (.move (lt1 rfl) (.t rfl))<| .guard (j := 8) (dj := 12) rfl (lt1 rfl) rfl (lt1 rfl) (fun hg => .loadPA (lt1 rfl) (.t rfl) agg32 rfl rfl rfl rfl)<| .guard (j := 8) (dj := 12) rfl (lt1 rfl) rfl (lt1 rfl) (fun hg => .fieldP (lt1 rfl) (.t rfl) fld57_0)<| .guard (j := 8) (dj := 12) rfl (lt1 rfl) rfl (lt1 rfl) (fun hg => .loadP (lt1 rfl) (.gd hg (.t rfl)) one22 rfl rfl rfl)<| .guard (j := 8) (dj := 12) rfl (lt1 rfl) rfl (lt1 rfl) (fun hg => .call0 (bw := false) (lt1 rfl) (c26 (β1 := β2) (β2 := β3) (β3 := β1) n (R23.mk a1_b0 a1_b1 a1_b2 a1_b3) a0.Pattern (gdB hy_1 hg)) (.cons (.gd hg (.t rfl)) (.ren rfl) (.cons (.gd hg (.t rfl)) (.ren rfl) (.nil))) rfl)<| .guard (j := 8) (dj := 12) rfl (lt1 rfl) rfl (lt1 rfl) (fun hg => .not (lt1 rfl) (.gd hg (.t rfl)))<| .cons (.pickOr (lt1 rfl) (.t rfl) (.const _ _ _) (.t rfl))<| .cons (.assign (lt1 rfl) (.t rfl))<| ARun.nil _ _ _) ?_
 refine AWP.ret ?_
 obtain rfl := Option.some.inj h
 refine retJ (Res.vc (s' := ⟨[(3,bW (((decide (a0.Count < (1 : Int))) || (decide ((1000 : Int) < a0.Count))) || (!y_1)))],[(1,⟨32,false,[rW β2 a1_b0 eW,rW β3 a1_b1 eW,iW a1_b2,iW a1_b3]⟩)]⟩) (VC.sub (.of rfl) (.of rfl)) ?_)
 refine Res.sub (H := [(1,⟨32,false,[rW β2 a1_b0 eW,rW β3 a1_b1 eW,iW a1_b2,iW a1_b3]⟩)]) (.of rfl) ?_
 exact Res.of rfl (.cons (.tmp rfl) (.nil)) rfl rfl
theorem c50x2 {β1 : Bool} {β2 : Bool} {β3 : Bool} (n : Nat) (a0 : (List R56)) (a1_0_b0 : (List Int)) (a1_0_b1 : (List Int)) (a1_0_b2 : Int) (a1_0_b3 : Int) {r : Int} (h : m50x2 n a0 a1_0_b0 a1_0_b1 a1_0_b2 a1_0_b3 = some r) : Spec Try.prog 50 [1] [rW β1 a0 encR56,.clo (.func 67) [] [.ptr 1 0]] [(1,⟨32,false,[rW β2 a1_0_b0 eW,rW β3 a1_0_b1 eW,iW a1_0_b2,iW a1_0_b3]⟩)] (iW r) [(1,⟨32,false,[rW β2 a1_0_b0 eW,rW β3 a1_0_b1 eW,iW a1_0_b2,iW a1_0_b3]⟩)] := by
 refine Spec.of (fn := Try.f50) Try.func50 Try.ntmps50 rfl rfl (le1 rfl) (fun w0 Zs Zb T0 ι0 => ?_)
 unfold m50x2 at h
 refine AWP.seq ?_
 refine AWP.region (.cons (.assign (lt1 rfl) (.const _ _ _))<| ARun.nil _ _ _) ?_
 refine AWP.vc (s' := ⟨[(0,rW β1 a0 encR56),(1,.clo (.func 67) [] [.ptr 1 0])],[(1,⟨32,false,[rW β2 a1_0_b0 eW,rW β3 a1_0_b1 eW,iW a1_0_b2,iW a1_0_b3]⟩)]⟩) (VC.sub (.of rfl) (.of rfl)) ?_
 refine AWP.seq ?_
 refine AWP.seq ?_
 refine AWP.region (.cons (.move (lt1 rfl) (.t rfl))<| .cons (.lenRd (lt1 rfl) (.t rfl) Try.underlying53)<| .cons (.move (lt1 rfl) (.const _ _ _))<| ARun.nil _ _ _) ?_
 refine AWP.vc (s' := ⟨[(0,rW β1 a0 encR56),(1,.clo (.func 67) [] [.ptr 1 0]),(7,iW (a0.length : Int)),(8,iW (0 : Int))],[(1,⟨32,false,[rW β2 a1_0_b0 eW,rW β3 a1_0_b1 eW,iW a1_0_b2,iW a1_0_b3]⟩)]⟩) (VC.sub (.of rfl) (.of rfl)) ?_
 refine AWP.joinB' (S := fun p_10 : Unit => ⟨[],[(1,⟨32,false,[rW β2 a1_0_b0 eW,rW β3 a1_0_b1 eW,iW a1_0_b2,iW a1_0_b3]⟩)]⟩) h (fun p_10 h => ?_) (fun k_11 h => ?_)
 ·refine AWP.seq ?_
  refine AWP.region (.cons (.assign (lt1 rfl) (.const _ _ _))<| ARun.nil _ _ _) ?_
  refine AWP.ret ?_
  obtain rfl := Option.some.inj h
  refine retJ (Res.vc (s' := ⟨[(4,iW (-1 : Int))],[(1,⟨32,false,[rW β2 a1_0_b0 eW,rW β3 a1_0_b1 eW,iW a1_0_b2,iW a1_0_b3]⟩)]⟩) (VC.sub (.of rfl) (.of rfl)) ?_)
  refine Res.sub (H := [(1,⟨32,false,[rW β2 a1_0_b0 eW,rW β3 a1_0_b1 eW,iW a1_0_b2,iW a1_0_b3]⟩)]) (.of rfl) ?_
  exact Res.of rfl (.cons (.tmp rfl) (.nil)) rfl rfl
 ·refine AWP.vc (s' := ⟨[(0,rW β1 a0 encR56),(1,.clo (.func 67) [] [.ptr 1 0]),(7,iW (a0.length : Int)),(8,iW (0 : Int))],[(1,⟨32,false,[rW β2 a1_0_b0 eW,rW β3 a1_0_b1 eW,iW a1_0_b2,iW a1_0_b3]⟩)]⟩) (VC.sub (.of rfl) (.of rfl)) ?_
  refine AWP.loopM (S := fun x_5 : Int => ⟨[(0,rW β1 a0 encR56),(1,.clo (.func 67) [] [.ptr 1 0]),(7,iW (a0.length : Int)),(8,iW x_5)],[(1,⟨32,false,[rW β2 a1_0_b0 eW,rW β3 a1_0_b1 eW,iW a1_0_b2,iW a1_0_b3]⟩)]⟩) (x := (0 : Int)) (fun nx_6 x_5 h => ?_) h
  unfold m50x2_L1 at h
  refine AWP.seq ?_
  refine AWP.region (.cons (.lss (lt1 rfl) (.t rfl) (.t rfl))<| ARun.nil _ _ _) ?_
  refine AWP.vc (s' := ⟨[(0,rW β1 a0 encR56),(1,.clo (.func 67) [] [.ptr 1 0]),(7,iW (a0.length : Int)),(8,iW x_5),(9,bW (decide (x_5 < (a0.length : Int))))],[(1,⟨32,false,[rW β2 a1_0_b0 eW,rW β3 a1_0_b1 eW,iW a1_0_b2,iW a1_0_b3]⟩)]⟩) (VC.sub (.of rfl) (.of rfl)) ?_
  refine AWP.seq ?_
  refine AWP.cond (.t rfl) (fun hc => ?_) (fun hc => ?_)
  ·have h := iteT hc h
   refine AWP.skip ?_
   refine AWP.seq ?_
   refine AWP.block ?_
   refine AWP.seq ?_
   refine AWP.region (.cons (.move (lt1 rfl) (.t rfl))<| .cons (.assign (lt1 rfl) (.t rfl))<| ARun.nil _ _ _) ?_
   refine AWP.vc (s' := ⟨[(0,rW β1 a0 encR56),(1,.clo (.func 67) [] [.ptr 1 0]),(7,iW (a0.length : Int)),(8,iW x_5),(5,iW x_5)],[(1,⟨32,false,[rW β2 a1_0_b0 eW,rW β3 a1_0_b1 eW,iW a1_0_b2,iW a1_0_b3]⟩)]⟩) (VC.sub (.of rfl) (.of rfl)) ?_
   refine AWP.seq ?_
   obtain ⟨y_7,hy_7,h⟩ := bindS h
   obtain ⟨y_8,hy_8,h⟩ := bindS h
   refine AWP.region (.cons (.move (lt1 rfl) (.t rfl))<| .cons (.move (lt1 rfl) (.t rfl))<| .cons (.move (lt1 rfl) (.t rfl))<| .cons (.indexRd (enc := encR56) (lt1 rfl) (.t rfl) (.t rfl) Try.underlying53 sz57 encR56_len rfl hy_7)<| .cons (.loadRA (out := [rW β1 y_7.Pattern eW,iW y_7.Count]) (lt1 rfl) (.t rfl) agg57 (Nat.le_of_eq (Eq.symm (encR56_len _))) rfl)<| .cons (.keep (bw := false) (AStep.callV (us' := []) (avs := [.agg [rW β1 ((R56.mk y_7.Pattern y_7.Count).Pattern) eW,iW ((R56.mk y_7.Pattern y_7.Count).Count)]]) (cs' := [.ptr 1 0]) (σ := fun _ => 1) (bw := false) (lt1 rfl) (.t rfl) (c67 (β1 := β1) (β2 := β2) (β3 := β3) n (R56.mk y_7.Pattern y_7.Count) a1_0_b0 a1_0_b1 a1_0_b2 a1_0_b3 hy_8) (.nil) (.cons (.t rfl) (.ren rfl) (.nil)) (.cons (.ren rfl) (.nil)) (CallOk.mk' (.c rfl (.n)) rfl) (fun _ h => by cases h)) (CallOk.mk' (.c rfl (.n)) rfl) rfl rfl)<| ARun.nil _ _ _) ?_
   refine AWP.vc (s' := ⟨[(0,rW β1 a0 encR56),(1,.clo (.func 67) [] [.ptr 1 0]),(7,iW (a0.length : Int)),(8,iW x_5),(5,iW x_5),(16,bW y_8)],[(1,⟨32,false,[rW β2 a1_0_b0 eW,rW β3 a1_0_b1 eW,iW a1_0_b2,iW a1_0_b3]⟩)]⟩) (VC.sub (.of rfl) (.of rfl)) ?_
   refine AWP.cond (.t rfl) (fun hc => ?_) (fun hc => ?_)
   ·have h := iteT hc h
    refine AWP.seq ?_
    refine AWP.region (.cons (.move (lt1 rfl) (.t rfl))<| .cons (.assign (lt1 rfl) (.t rfl))<| ARun.nil _ _ _) ?_
    refine AWP.ret ?_
    obtain rfl := Option.some.inj h
    refine retJ (Res.vc (s' := ⟨[(4,iW x_5)],[(1,⟨32,false,[rW β2 a1_0_b0 eW,rW β3 a1_0_b1 eW,iW a1_0_b2,iW a1_0_b3]⟩)]⟩) (VC.sub (.of rfl) (.of rfl)) ?_)
    refine Res.sub (H := [(1,⟨32,false,[rW β2 a1_0_b0 eW,rW β3 a1_0_b1 eW,iW a1_0_b2,iW a1_0_b3]⟩)]) (.of rfl) ?_
    exact Res.of rfl (.cons (.tmp rfl) (.nil)) rfl rfl
   ·have h := iteF hc h
    refine AWP.skip ?_
    obtain ⟨t8_9,ht8_9,h⟩ := letS h
    refine AWP.region (.cons (.add (lt1 rfl) (.t rfl) (.const _ _ _))<| .cons (.move (lt1 rfl) (.t rfl))<| ARun.nil _ _ _) ?_
    exact endJ t8_9 h (by subst ht8_9; exact VC.sub (.of rfl) (.of rfl))
  ·have h := iteF hc h
   refine AWP.exit ?_
   exact endJ () h (VC.sub (.n _) (.of rfl))
theorem c68 {β1 : Bool} {β2 : Bool} {β3 : Bool} (n : Nat) (a0 : (List R56)) (a1_0_b0 : (List Int)) (a1_0_b1 : (List Int)) (a1_0_b2 : Int) (a1_0_b3 : Int) {r : Bool} (h : m68 n a0 a1_0_b0 a1_0_b1 a1_0_b2 a1_0_b3 = some r) : Spec Try.prog 68 [1] [rW β1 a0 encR56,.clo (.func 67) [] [.ptr 1 0]] [(1,⟨32,false,[rW β2 a1_0_b0 eW,rW β3 a1_0_b1 eW,iW a1_0_b2,iW a1_0_b3]⟩)] (bW r) [(1,⟨32,false,[rW β2 a1_0_b0 eW,rW β3 a1_0_b1 eW,iW a1_0_b2,iW a1_0_b3]⟩)] := by
 refine Spec.of (fn := Try.f68) Try.func68 Try.ntmps68 rfl rfl (le1 rfl) (fun w0 Zs Zb T0 ι0 => ?_)
 unfold m68 at h
 refine AWP.seq ?_
 refine AWP.region (.cons (.assign (lt1 rfl) (.const _ _ _))<| ARun.nil _ _ _) ?_
 refine AWP.vc (s' := ⟨[(0,rW β1 a0 encR56),(1,.clo (.func 67) [] [.ptr 1 0])],[(1,⟨32,false,[rW β2 a1_0_b0 eW,rW β3 a1_0_b1 eW,iW a1_0_b2,iW a1_0_b3]⟩)]⟩) (VC.sub (.of rfl) (.of rfl)) ?_
 refine AWP.seq ?_
 obtain ⟨y_1,hy_1,h⟩ := bindS h
 refine AWP.region (.cons (.move (lt1 rfl) (.t rfl))<| .cons (.move (lt1 rfl) (.t rfl))<| .cons (.keep (bw := false) (AStep.call (σ := fun _ => 1) (bw := false) (lt1 rfl) (c50x2 (β1 := β1) (β2 := β2) (β3 := β3) n a0 a1_0_b0 a1_0_b1 a1_0_b2 a1_0_b3 hy_1) (.cons (.t rfl) (.ren rfl) (.cons (.t rfl) (.ren rfl) (.nil))) (CallOk.mk' (.c rfl (.n)) rfl)) (CallOk.mk' (.c rfl (.n)) rfl) rfl rfl)<| .cons (.geq (lt1 rfl) (.t rfl) (.const _ _ _))<| .cons (.assign (lt1 rfl) (.t rfl))<| ARun.nil _ _ _) ?_
 refine AWP.ret ?_
 obtain rfl := Option.some.inj h
 refine retJ (Res.vc (s' := ⟨[(4,bW (decide ((0 : Int) ≤ y_1)))],[(1,⟨32,false,[rW β2 a1_0_b0 eW,rW β3 a1_0_b1 eW,iW a1_0_b2,iW a1_0_b3]⟩)]⟩) (VC.sub (.of rfl) (.of rfl)) ?_)
 refine Res.sub (H := [(1,⟨32,false,[rW β2 a1_0_b0 eW,rW β3 a1_0_b1 eW,iW a1_0_b2,iW a1_0_b3]⟩)]) (.of rfl) ?_
 exact Res.of rfl (.cons (.tmp rfl) (.nil)) rfl rfl
theorem c59 {β1 : Bool} {β2 : Bool} {β3 : Bool} (n : Nat) (a0 : R23) (a1 : (List R56)) {r : Bool} (h : m59 n a0 a1 = some r) : Spec Try.prog 59 [] [.agg [rW β1 a0.Lengths eW,rW β2 a0.Demand eW,iW a0.Stock,iW a0.Kerf],rW β3 a1 encR56] [] (bW r) [] := by
 refine Spec.of (fn := Try.f59) Try.func59 Try.ntmps59 rfl rfl (le1 rfl) (fun w0 Zs Zb T0 ι0 => ?_)
 unfold m59 at h
 refine AWP.seq ?_
 refine AWP.region (.cons (.box (t := 1) (n := 4) (lt1 rfl) (nm rfl) (.t rfl) (by first | exact ⟨rfl,rfl⟩ | rfl) rfl)<| .cons (.assign (lt1 rfl) (.const _ _ _))<| ARun.nil _ _ _) ?_
 refine AWP.vc (s' := ⟨[(1,rW β3 a1 encR56),(2,.ptr 1 0)],[(1,⟨32,false,[rW β1 a0.Lengths eW,rW β2 a0.Demand eW,iW a0.Stock,iW a0.Kerf]⟩)]⟩) (VC.sub (.of rfl) (.of rfl)) ?_
 refine AWP.seq ?_
 refine AWP.region (.cons (.makeFunc (lt1 rfl) (.nil) (.cons (.t rfl) (.nil)))<| .cons (.assign (lt1 rfl) (.t rfl))<| ARun.nil _ _ _) ?_
 refine AWP.vc (s' := ⟨[(1,rW β3 a1 encR56),(2,.ptr 1 0),(5,.clo (.func 67) [] [.ptr 1 0])],[(1,⟨32,false,[rW β1 a0.Lengths eW,rW β2 a0.Demand eW,iW a0.Stock,iW a0.Kerf]⟩)]⟩) (VC.sub (.of rfl) (.of rfl)) ?_
 refine AWP.seq ?_
 obtain ⟨y_1,hy_1,h⟩ := bindS h
 obtain ⟨y_2,hy_2,h⟩ := bindS h
 refine AWP.region (.cons (.loadPA (lt1 rfl) (.t rfl) agg32 rfl rfl rfl rfl)<| .cons (.call0 (bw := false) (lt1 rfl) (c21 (β1 := β1) (β2 := β2) n (R23.mk a0.Lengths a0.Demand a0.Stock a0.Kerf) hy_1) (.cons (.t rfl) (.ren rfl) (.nil)) rfl)<| .cons (.move (lt1 rfl) (.t rfl))<| .guard (j := 2) (dj := 9) rfl (lt1 rfl) rfl (lt1 rfl) (fun hg => .move (lt1 rfl) (.t rfl))<| .guard (j := 2) (dj := 9) rfl (lt1 rfl) rfl (lt1 rfl) (fun hg => .lenRd (lt1 rfl) (.gd hg (.t rfl)) Try.underlying53)<| .guard (j := 2) (dj := 9) rfl (lt1 rfl) rfl (lt1 rfl) (fun hg => .leq (lt1 rfl) (.gd hg (.t rfl)) (.const _ _ _))<| .cons (.pickAnd (lt1 rfl) (.t rfl) (.t rfl) (.const _ _ _))<| .cons (.move (lt1 rfl) (.t rfl))<| .guard (j := 7) (dj := 14) rfl (lt1 rfl) rfl (lt1 rfl) (fun hg => .move (lt1 rfl) (.t rfl))<| .guard (j := 7) (dj := 14) rfl (lt1 rfl) rfl (lt1 rfl) (fun hg => .move (lt1 rfl) (.t rfl))<| .guard (j := 7) (dj := 14) rfl (lt1 rfl) rfl (lt1 rfl) (fun hg => .keep (bw := false) (AStep.call (σ := fun _ => 1) (bw := false) (lt1 rfl) (c68 (β1 := β3) (β2 := β1) (β3 := β2) n a1 a0.Lengths a0.Demand a0.Stock a0.Kerf (gdB hy_2 hg)) (.cons (.gd hg (.t rfl)) (.ren rfl) (.cons (.gd hg (.t rfl)) (.ren rfl) (.nil))) (CallOk.mk' (.c rfl (.n)) rfl)) (CallOk.mk' (.c rfl (.n)) rfl) rfl rfl)<| .guard (j := 7) (dj := 14) rfl (lt1 rfl) rfl (lt1 rfl) (fun hg => .not (lt1 rfl) (.gd hg (.t rfl)))<| .cons (.pickAnd (lt1 rfl) (.t rfl) (.t rfl) (.const _ _ _))<| .cons (.assign (lt1 rfl) (.t rfl))<| ARun.nil _ _ _) ?_
 refine AWP.ret ?_
 obtain rfl := Option.some.inj h
 refine retJ (Res.vc (s' := ⟨[(4,bW ((y_1 && (decide ((a1.length : Int) ≤ (1000 : Int)))) && (!y_2)))],[]⟩) (VC.sub (.of rfl) (.n _)) ?_)
 refine Res.drop (H := []) rfl ?_
 exact Res.of rfl (.cons (.tmp rfl) (.nil)) rfl rfl
theorem c33 {β1 : Bool} {β2 : Bool} {β3 : Bool} (n : Nat) (a0 : R23) (a1 : (List R56)) {r : ((List Int) × Int)} (h : m33 n a0 a1 = some r) : Spec Try.prog 33 [] [.agg [rW β1 a0.Lengths eW,rW β2 a0.Demand eW,iW a0.Stock,iW a0.Kerf],rW β3 a1 encR56] [] (.tup [rW false r.1 eW,iW r.2]) [] := by
 refine Spec.of (fn := Try.f33) Try.func33 Try.ntmps33 rfl rfl (le1 rfl) (fun w0 Zs Zb T0 ι0 => ?_)
 unfold m33 at h
 refine AWP.seq ?_
 refine AWP.region (.cons (.box (t := 1) (n := 4) (lt1 rfl) (nm rfl) (.t rfl) (by first | exact ⟨rfl,rfl⟩ | rfl) rfl)<| .cons (.assign (lt1 rfl) (.const _ _ _))<| .cons (.assign (lt1 rfl) (.const _ _ _))<| ARun.nil _ _ _) ?_
 refine AWP.vc (s' := ⟨[(1,rW β3 a1 encR56),(2,.ptr 1 0)],[(1,⟨32,false,[rW β1 a0.Lengths eW,rW β2 a0.Demand eW,iW a0.Stock,iW a0.Kerf]⟩)]⟩) (VC.sub (.of rfl) (.of rfl)) ?_
 refine AWP.seq ?_
 refine AWP.seq ?_
 obtain ⟨y_1,hy_1,h⟩ := bindS h
 refine AWP.region (.cons (.loadPA (lt1 rfl) (.t rfl) agg32 rfl rfl rfl rfl)<| .cons (.move (lt1 rfl) (.t rfl))<| .cons (.call0 (bw := false) (lt1 rfl) (c59 (β1 := β1) (β2 := β2) (β3 := β3) n (R23.mk a0.Lengths a0.Demand a0.Stock a0.Kerf) a1 hy_1) (.cons (.t rfl) (.ren rfl) (.cons (.t rfl) (.ren rfl) (.nil))) rfl)<| .cons (.not (lt1 rfl) (.t rfl))<| ARun.nil _ _ _) ?_
 refine AWP.vc (s' := ⟨[(1,rW β3 a1 encR56),(2,.ptr 1 0),(14,bW (!y_1))],[(1,⟨32,false,[rW β1 a0.Lengths eW,rW β2 a0.Demand eW,iW a0.Stock,iW a0.Kerf]⟩)]⟩) (VC.sub (.of rfl) (.of rfl)) ?_
 refine AWP.cond (.t rfl) (fun hc => ?_) (fun hc => ?_)
 ·have h := iteT hc h
  refine AWP.seq ?_
  refine AWP.region (.cons (.assign (lt1 rfl) (.const _ _ _))<| .cons (.assign (lt1 rfl) (.const _ _ _))<| ARun.nil _ _ _) ?_
  refine AWP.ret ?_
  obtain rfl := Option.some.inj h
  refine retJ (Res.vc (s' := ⟨[(4,rW false ([] : List Int) eW),(5,iW (1 : Int))],[]⟩) (VC.trans (VC.nilRd (d := 4) false rfl) (VC.sub (.of rfl) (.n _))) ?_)
  refine Res.drop (H := []) rfl ?_
  exact Res.of rfl (.cons (.tmp rfl) (.cons (.tmp rfl) (.nil))) rfl rfl
 ·have h := iteF hc h
  refine AWP.skip ?_
  refine AWP.seq ?_
  obtain ⟨l2_2,hl2_2,h⟩ := bindS h
  refine AWP.region (.cons (.fieldP (lt1 rfl) (.t rfl) fld32_0)<| .cons (.loadP (lt1 rfl) (.t rfl) one22 rfl rfl rfl)<| .cons (.lenRd (lt1 rfl) (.t rfl) Try.underlying22)<| .cons (.mkS (enc := eW) (t := 2) (lt1 rfl) (nm rfl) (.t rfl) (.t rfl) Try.underlying22 zero3 el3 rfl (encI_len .i64) (by decide) hl2_2)<| .cons (.assign (lt1 rfl) (.t rfl))<| ARun.nil _ _ _) ?_
  refine AWP.vc (s' := ⟨[(1,rW β3 a1 encR56),(6,.own 2 1 0 l2_2.length)],[(2,⟨3,true,l2_2.flatMap eW⟩)]⟩) (VC.sub (.of rfl) (.of rfl)) ?_
  refine AWP.seq ?_
  refine AWP.seq ?_
  refine AWP.region (.cons (.move (lt1 rfl) (.t rfl))<| .cons (.lenRd (lt1 rfl) (.t rfl) Try.underlying53)<| .cons (.move (lt1 rfl) (.const _ _ _))<| ARun.nil _ _ _) ?_
  refine AWP.vc (s' := ⟨[(6,.own 2 1 0 l2_2.length),(19,rW β3 a1 encR56),(20,iW (a1.length : Int)),(21,iW (0 : Int))],[(2,⟨3,true,l2_2.flatMap eW⟩)]⟩) (VC.sub (.of rfl) (.of rfl)) ?_
  refine AWP.joinB' (S := fun p_76 : (List Int) => ⟨[(6,.own 2 1 0 p_76.length)],[(2,⟨3,true,p_76.flatMap eW⟩)]⟩) h (fun p_76 h => ?_) (fun k_77 h => ?_)
  ·refine AWP.seq ?_
   refine AWP.region (.cons (.move (lt1 rfl) (.t rfl))<| .cons (.assign (lt1 rfl) (.t rfl))<| .cons (.assign (lt1 rfl) (.const _ _ _))<| ARun.nil _ _ _) ?_
   refine AWP.ret ?_
   obtain rfl := Option.some.inj h
   refine retJ (Res.vc (s' := ⟨[(4,rW false p_76 eW),(5,iW (0 : Int))],[]⟩) (VC.trans (VC.frz (d := 4) (t := 2) rfl rfl (encI_len .i64)) (VC.sub (.of rfl) (.n _))) ?_)
   refine Res.drop (H := []) rfl ?_
   exact Res.of rfl (.cons (.tmp rfl) (.cons (.tmp rfl) (.nil))) rfl rfl
  ·refine AWP.vc (s' := ⟨[(6,.own 2 1 0 l2_2.length),(19,rW β3 a1 encR56),(20,iW (a1.length : Int)),(21,iW (0 : Int))],[(2,⟨3,true,l2_2.flatMap eW⟩)]⟩) (VC.sub (.of rfl) (.of rfl)) ?_
   refine AWP.loopM (S := fun x_51 : Int × (List Int) => ⟨[(6,.own 2 1 0 x_51.2.length),(19,rW β3 a1 encR56),(20,iW (a1.length : Int)),(21,iW x_51.1)],[(2,⟨3,true,x_51.2.flatMap eW⟩)]⟩) (x := ((0 : Int),l2_2)) (fun nx_52 x_51 h => ?_) h
   unfold m33_L3 at h
   refine AWP.seq ?_
   refine AWP.region (.cons (.lss (lt1 rfl) (.t rfl) (.t rfl))<| ARun.nil _ _ _) ?_
   refine AWP.vc (s' := ⟨[(6,.own 2 1 0 x_51.2.length),(19,rW β3 a1 encR56),(20,iW (a1.length : Int)),(21,iW x_51.1),(22,bW (decide (x_51.1 < (a1.length : Int))))],[(2,⟨3,true,x_51.2.flatMap eW⟩)]⟩) (VC.sub (.of rfl) (.of rfl)) ?_
   refine AWP.seq ?_
   refine AWP.cond (.t rfl) (fun hc => ?_) (fun hc => ?_)
   ·have h := iteT hc h
    refine AWP.skip ?_
    refine AWP.seq ?_
    refine AWP.block ?_
    refine AWP.seq ?_
    obtain ⟨y_53,hy_53,h⟩ := bindS h
    refine AWP.region (.cons (.indexRd (enc := encR56) (lt1 rfl) (.t rfl) (.t rfl) Try.underlying53 sz57 encR56_len rfl hy_53)<| .cons (.loadRA (out := [rW β3 y_53.Pattern eW,iW y_53.Count]) (lt1 rfl) (.t rfl) agg57 (Nat.le_of_eq (Eq.symm (encR56_len _))) rfl)<| .cons (.alloc (t := 3) (k := ⟨57,false,[.sc (.slice none 0 0),iW (0 : Int)]⟩) (lt1 rfl) (nm rfl) zero57 rfl rfl)<| .cons (.storePA (.t rfl) (.t rfl) sz57 rfl rfl (le1 rfl) (one_lit rfl) (by intro h; cases h) rfl)<| ARun.nil _ _ _) ?_
    refine AWP.vc (s' := ⟨[(6,.own 2 1 0 x_51.2.length),(19,rW β3 a1 encR56),(20,iW (a1.length : Int)),(21,iW x_51.1),(8,.ptr 3 0)],[(3,⟨57,false,[rW β3 y_53.Pattern eW,iW y_53.Count]⟩),(2,⟨3,true,x_51.2.flatMap eW⟩)]⟩) (VC.sub (.of rfl) (.of rfl)) ?_
    refine AWP.seq ?_
    refine AWP.region (.cons (.fieldP (lt1 rfl) (.t rfl) fld57_0)<| .cons (.loadP (lt1 rfl) (.t rfl) one22 rfl rfl rfl)<| .cons (.lenRd (lt1 rfl) (.t rfl) Try.underlying22)<| .cons (.move (lt1 rfl) (.const _ _ _))<| ARun.nil _ _ _) ?_
    refine AWP.vc (s' := ⟨[(6,.own 2 1 0 x_51.2.length),(19,rW β3 a1 encR56),(20,iW (a1.length : Int)),(21,iW x_51.1),(8,.ptr 3 0),(26,rW β3 y_53.Pattern eW),(27,iW (y_53.Pattern.length : Int)),(28,iW (0 : Int))],[(3,⟨57,false,[rW β3 y_53.Pattern eW,iW y_53.Count]⟩),(2,⟨3,true,x_51.2.flatMap eW⟩)]⟩) (VC.sub (.of rfl) (.of rfl)) ?_
    refine AWP.joinB' (S := fun p_73 : (List Int) => ⟨[(6,.own 2 1 0 p_73.length),(19,rW β3 a1 encR56),(20,iW (a1.length : Int)),(21,iW x_51.1)],[(2,⟨3,true,p_73.flatMap eW⟩)]⟩) h (fun p_73 h => ?_) (fun k_74 h => ?_)
    ·obtain ⟨t21_75,ht21_75,h⟩ := letS h
     refine AWP.region (.cons (.add (lt1 rfl) (.t rfl) (.const _ _ _))<| .cons (.move (lt1 rfl) (.t rfl))<| ARun.nil _ _ _) ?_
     exact endJ (t21_75,p_73) h (by subst ht21_75; exact VC.sub (.of rfl) (.of rfl))
    ·refine AWP.vc (s' := ⟨[(6,.own 2 1 0 x_51.2.length),(8,.ptr 3 0),(19,rW β3 a1 encR56),(20,iW (a1.length : Int)),(21,iW x_51.1),(26,rW β3 y_53.Pattern eW),(27,iW (y_53.Pattern.length : Int)),(28,iW (0 : Int))],[(2,⟨3,true,x_51.2.flatMap eW⟩),(3,⟨57,false,[rW β3 y_53.Pattern eW,iW y_53.Count]⟩)]⟩) (VC.sub (.of rfl) (.of rfl)) ?_
     refine AWP.loopM (S := fun x_66 : Int × (List Int) => ⟨[(6,.own 2 1 0 x_66.2.length),(8,.ptr 3 0),(19,rW β3 a1 encR56),(20,iW (a1.length : Int)),(21,iW x_51.1),(26,rW β3 y_53.Pattern eW),(27,iW (y_53.Pattern.length : Int)),(28,iW x_66.1)],[(2,⟨3,true,x_66.2.flatMap eW⟩),(3,⟨57,false,[rW β3 y_53.Pattern eW,iW y_53.Count]⟩)]⟩) (x := ((0 : Int),x_51.2)) (fun nx_67 x_66 h => ?_) h
     unfold m33_L4 at h
     refine AWP.seq ?_
     refine AWP.region (.cons (.lss (lt1 rfl) (.t rfl) (.t rfl))<| ARun.nil _ _ _) ?_
     refine AWP.vc (s' := ⟨[(6,.own 2 1 0 x_66.2.length),(8,.ptr 3 0),(19,rW β3 a1 encR56),(20,iW (a1.length : Int)),(21,iW x_51.1),(26,rW β3 y_53.Pattern eW),(27,iW (y_53.Pattern.length : Int)),(28,iW x_66.1),(29,bW (decide (x_66.1 < (y_53.Pattern.length : Int))))],[(2,⟨3,true,x_66.2.flatMap eW⟩),(3,⟨57,false,[rW β3 y_53.Pattern eW,iW y_53.Count]⟩)]⟩) (VC.sub (.of rfl) (.of rfl)) ?_
     refine AWP.seq ?_
     refine AWP.cond (.t rfl) (fun hc => ?_) (fun hc => ?_)
     ·have h := iteT hc h
      refine AWP.skip ?_
      refine AWP.seq ?_
      refine AWP.block ?_
      refine AWP.seq ?_
      obtain ⟨y_68,hy_68,h⟩ := bindS h
      refine AWP.region (.cons (.move (lt1 rfl) (.t rfl))<| .cons (.indexRd (enc := eW) (lt1 rfl) (.t rfl) (.t rfl) Try.underlying22 sz3 (encI_len .i64) rfl hy_68)<| .cons (.loadR (v := iW y_68) (lt1 rfl) (.t rfl) one3 rfl)<| .cons (.assign (lt1 rfl) (.t rfl))<| .cons (.assign (lt1 rfl) (.t rfl))<| ARun.nil _ _ _) ?_
      refine AWP.vc (s' := ⟨[(6,.own 2 1 0 x_66.2.length),(8,.ptr 3 0),(19,rW β3 a1 encR56),(20,iW (a1.length : Int)),(21,iW x_51.1),(26,rW β3 y_53.Pattern eW),(27,iW (y_53.Pattern.length : Int)),(28,iW x_66.1),(9,iW x_66.1),(10,iW y_68)],[(2,⟨3,true,x_66.2.flatMap eW⟩),(3,⟨57,false,[rW β3 y_53.Pattern eW,iW y_53.Count]⟩)]⟩) (VC.sub (.of rfl) (.of rfl)) ?_
      obtain ⟨y_69,hy_69,h⟩ := bindS h
      obtain ⟨y_70,hy_70,h⟩ := bindS h
      obtain ⟨l2_71,hl2_71,h⟩ := bindS h
      refine AWP.draw (s' := ⟨[(6,.own 2 1 0 x_66.2.length),(8,.ptr 3 0),(19,rW β3 a1 encR56),(20,iW (a1.length : Int)),(21,iW x_51.1),(26,rW β3 y_53.Pattern eW),(27,iW (y_53.Pattern.length : Int)),(28,iW x_66.1)],[(2,⟨3,true,l2_71.flatMap eW⟩),(3,⟨57,false,[rW β3 y_53.Pattern eW,iW y_53.Count]⟩)]⟩) mixed [⟨6,.own 2 1 0 x_66.2.length,none,[]⟩,⟨8,.ptr 3 0,none,[]⟩,⟨9,iW x_66.1,none,[]⟩,⟨10,iW y_68,none,[]⟩,⟨19,rW β3 a1 encR56,none,[]⟩,⟨20,iW (a1.length : Int),none,[]⟩,⟨21,iW x_51.1,none,[]⟩,⟨26,rW β3 y_53.Pattern eW,none,[]⟩,⟨27,iW (y_53.Pattern.length : Int),none,[]⟩,⟨28,iW x_66.1,none,[]⟩,⟨33,.own 2 1 0 x_66.2.length,some 0,[]⟩,⟨34,iW x_66.1,some 1,[]⟩,⟨35,.ptr 2 (0 + (x_66.1).toNat * 1),some 2,[]⟩,⟨36,iW y_69,some 3,[]⟩,⟨37,iW y_68,some 4,[]⟩,⟨38,.ptr 3 (0 + 1),some 5,[]⟩,⟨39,iW y_53.Count,some 6,[]⟩,⟨40,iW (IntKind.wrap .i64 (y_68 * y_53.Count)),some 7,[]⟩,⟨41,iW (IntKind.wrap .i64 (y_69 + (IntKind.wrap .i64 (y_68 * y_53.Count)))),some 8,[]⟩,⟨42,.ptr 2 (0 + (x_66.1).toNat * 1),some 9,[]⟩] [⟨[0],0,0,some (33,.own 2 1 0 x_66.2.length),[]⟩,⟨[2],0,1,some (34,iW x_66.1),[]⟩,⟨[10,11],0,0,some (35,.ptr 2 (0 + (x_66.1).toNat * 1)),[]⟩,⟨[12],0,0,some (36,iW y_69),[]⟩,⟨[3],0,1,some (37,iW y_68),[]⟩,⟨[1],0,0,some (38,.ptr 3 (0 + 1)),[]⟩,⟨[15],0,0,some (39,iW y_53.Count),[]⟩,⟨[14,16],0,1,some (40,iW (IntKind.wrap .i64 (y_68 * y_53.Count))),[]⟩,⟨[13,17],0,1,some (41,iW (IntKind.wrap .i64 (y_69 + (IntKind.wrap .i64 (y_68 * y_53.Count))))),[]⟩,⟨[10,11],0,0,some (42,.ptr 2 (0 + (x_66.1).toNat * 1)),[]⟩,⟨[19,18],0,0,none,[]⟩] [10] [[(2,⟨3,true,x_66.2.flatMap eW⟩),(3,⟨57,false,[rW β3 y_53.Pattern eW,iW y_53.Count]⟩)],[(2,⟨3,true,l2_71.flatMap eW⟩),(3,⟨57,false,[rW β3 y_53.Pattern eW,iW y_53.Count]⟩)]] [[],[],[0,1],[0,1,2],[],[],[5],[4,5,6],[0,1,2,3,4,5,6,7],[0,1,2,3,4,5,6,7,8],[0,1,2,3,4,5,6,7,8,9]] (by kernel_rfl) (by kernel_rfl) (BornL.ok (.o<| .o<| .o<| .o<| .o<| .o<| .o<| .o<| .o<| .o<| .b rfl rfl<| .b rfl rfl<| .b rfl rfl<| .b rfl rfl<| .b rfl rfl<| .b rfl rfl<| .b rfl rfl<| .b rfl rfl<| .b rfl rfl<| .b rfl rfl<| .n)) (BaseL.ok (.o rfl<| .o rfl<| .o rfl<| .o rfl<| .o rfl<| .o rfl<| .o rfl<| .o rfl<| .o rfl<| .o rfl<| .b<| .b<| .b<| .b<| .b<| .b<| .b<| .b<| .b<| .b<| .n)) rfl (by decide) (allLt rfl) (.read rfl (.c (.put (fun E hE => .move (lt1 rfl) (.tmp (hE.at (k := 0) rfl)))) (.n))<| .pure rfl (fun H => .put (fun E hE => .move (lt1 rfl) (.tmp (hE.at (k := 0) rfl))))<| .read rfl (.c (.put (fun E hE => .idxOwn (lt1 rfl) (.tmp (hE.at (k := 0) rfl)) (.tmp (hE.at (k := 1) rfl)) Try.underlying22 sz3 rfl hy_69)) (.n))<| .read rfl (.c (.put (fun E hE => .loadP (lt1 rfl) (.tmp (hE.at (k := 0) rfl)) one3 rfl (cell_at1 (encI_len .i64) hy_69) rfl)) (.n))<| .pure rfl (fun H => .put (fun E hE => .move (lt1 rfl) (.tmp (hE.at (k := 0) rfl))))<| .read rfl (.c (.put (fun E hE => .fieldP (lt1 rfl) (.tmp (hE.at (k := 0) rfl)) fld57_1)) (.n))<| .read rfl (.c (.put (fun E hE => .loadP (lt1 rfl) (.tmp (hE.at (k := 0) rfl)) one3 rfl rfl rfl)) (.n))<| .pure rfl (fun H => .put (fun E hE => .mul (lt1 rfl) (.tmp (hE.at (k := 0) rfl)) (.tmp (hE.at (k := 1) rfl))))<| .pure rfl (fun H => .put (fun E hE => .add (lt1 rfl) (.tmp (hE.at (k := 0) rfl)) (.tmp (hE.at (k := 1) rfl))))<| .read rfl (.c (.put (fun E hE => .idxOwn (lt1 rfl) (.tmp (hE.at (k := 0) rfl)) (.tmp (hE.at (k := 1) rfl)) Try.underlying22 sz3 rfl hy_70)) (.n))<| .turn rfl rfl rfl rfl rfl (.store (fun E hE => .storeP (.tmp (hE.at (k := 0) rfl)) (.tmp (hE.at (k := 1) rfl)) sz3 rfl (lt_at1 (encI_len .i64) hy_70) rfl (fun _ => rfl) (set_at1 (encI_len .i64) hl2_71 rfl)) rfl)<| .nil _) (fun E hE => .c (DInv.at hE (k := 0) rfl rfl rfl)<| .c (DInv.at hE (k := 1) rfl rfl rfl)<| .c (DInv.at hE (k := 4) rfl rfl rfl)<| .c (DInv.at hE (k := 5) rfl rfl rfl)<| .c (DInv.at hE (k := 6) rfl rfl rfl)<| .c (DInv.at hE (k := 7) rfl rfl rfl)<| .c (DInv.at hE (k := 8) rfl rfl rfl)<| .c (DInv.at hE (k := 9) rfl rfl rfl)<| .n _) rfl ?_
      refine AWP.vc (s' := ⟨[(6,.own 2 1 0 l2_71.length),(8,.ptr 3 0),(19,rW β3 a1 encR56),(20,iW (a1.length : Int)),(21,iW x_51.1),(26,rW β3 y_53.Pattern eW),(27,iW (y_53.Pattern.length : Int)),(28,iW x_66.1)],[(2,⟨3,true,l2_71.flatMap eW⟩),(3,⟨57,false,[rW β3 y_53.Pattern eW,iW y_53.Count]⟩)]⟩) (VC.sub (.c (lenC (Eq.symm (setLen hl2_71)) rfl)<| .c rfl<| .c rfl<| .c rfl<| .c rfl<| .c rfl<| .c rfl<| .c rfl<| .n _) (.of rfl)) ?_
      obtain ⟨t28_72,ht28_72,h⟩ := letS h
      refine AWP.region (.cons (.add (lt1 rfl) (.t rfl) (.const _ _ _))<| .cons (.move (lt1 rfl) (.t rfl))<| ARun.nil _ _ _) ?_
      exact endJ (t28_72,l2_71) h (by subst ht28_72; exact VC.sub (.of rfl) (.of rfl))
     ·have h := iteF hc h
      refine AWP.exit ?_
      exact endJ x_66.2 h (VC.sub (.of rfl) (.of rfl))
   ·have h := iteF hc h
    refine AWP.exit ?_
    exact endJ x_51.2 h (VC.sub (.of rfl) (.of rfl))
theorem c35 {β1 : Bool} (n : Nat) (a0 : (List R56)) {r : Int} (h : m35 n a0 = some r) : Spec Try.prog 35 [] [rW β1 a0 encR56] [] (iW r) [] := by
 refine Spec.of (fn := Try.f35) Try.func35 Try.ntmps35 rfl rfl (le1 rfl) (fun w0 Zs Zb T0 ι0 => ?_)
 unfold m35 at h
 refine AWP.seq ?_
 refine AWP.region (.cons (.assign (lt1 rfl) (.const _ _ _))<| ARun.nil _ _ _) ?_
 refine AWP.vc (s' := ⟨[(0,rW β1 a0 encR56)],[]⟩) (VC.sub (.of rfl) (.n _)) ?_
 refine AWP.seq ?_
 refine AWP.region (.cons (.assign (lt1 rfl) (.const _ _ _))<| ARun.nil _ _ _) ?_
 refine AWP.vc (s' := ⟨[(0,rW β1 a0 encR56),(3,iW (0 : Int))],[]⟩) (VC.sub (.of rfl) (.n _)) ?_
 refine AWP.seq ?_
 refine AWP.seq ?_
 refine AWP.region (.cons (.move (lt1 rfl) (.t rfl))<| .cons (.lenRd (lt1 rfl) (.t rfl) Try.underlying53)<| .cons (.move (lt1 rfl) (.const _ _ _))<| ARun.nil _ _ _) ?_
 refine AWP.vc (s' := ⟨[(3,iW (0 : Int)),(6,rW β1 a0 encR56),(7,iW (a0.length : Int)),(8,iW (0 : Int))],[]⟩) (VC.sub (.of rfl) (.n _)) ?_
 refine AWP.joinB' (S := fun p_10 : Int => ⟨[(3,iW p_10)],[]⟩) h (fun p_10 h => ?_) (fun k_11 h => ?_)
 ·refine AWP.seq ?_
  refine AWP.region (.cons (.move (lt1 rfl) (.t rfl))<| .cons (.assign (lt1 rfl) (.t rfl))<| ARun.nil _ _ _) ?_
  refine AWP.ret ?_
  obtain rfl := Option.some.inj h
  refine retJ (Res.vc (s' := ⟨[(2,iW p_10)],[]⟩) (VC.sub (.of rfl) (.n _)) ?_)
  refine Res.drop (H := []) rfl ?_
  exact Res.of rfl (.cons (.tmp rfl) (.nil)) rfl rfl
 ·refine AWP.vc (s' := ⟨[(3,iW (0 : Int)),(6,rW β1 a0 encR56),(7,iW (a0.length : Int)),(8,iW (0 : Int))],[]⟩) (VC.sub (.of rfl) (.n _)) ?_
  refine AWP.loopM (S := fun x_5 : Int × Int => ⟨[(3,iW x_5.1),(6,rW β1 a0 encR56),(7,iW (a0.length : Int)),(8,iW x_5.2)],[]⟩) (x := ((0 : Int),(0 : Int))) (fun nx_6 x_5 h => ?_) h
  unfold m35_L1 at h
  refine AWP.seq ?_
  refine AWP.region (.cons (.lss (lt1 rfl) (.t rfl) (.t rfl))<| ARun.nil _ _ _) ?_
  refine AWP.vc (s' := ⟨[(3,iW x_5.1),(6,rW β1 a0 encR56),(7,iW (a0.length : Int)),(8,iW x_5.2),(9,bW (decide (x_5.2 < (a0.length : Int))))],[]⟩) (VC.sub (.of rfl) (.n _)) ?_
  refine AWP.seq ?_
  refine AWP.cond (.t rfl) (fun hc => ?_) (fun hc => ?_)
  ·have h := iteT hc h
   refine AWP.skip ?_
   refine AWP.seq ?_
   refine AWP.block ?_
   refine AWP.seq ?_
   obtain ⟨y_7,hy_7,h⟩ := bindS h
   refine AWP.region (.cons (.indexRd (enc := encR56) (lt1 rfl) (.t rfl) (.t rfl) Try.underlying53 sz57 encR56_len rfl hy_7)<| .cons (.loadRA (out := [rW β1 y_7.Pattern eW,iW y_7.Count]) (lt1 rfl) (.t rfl) agg57 (Nat.le_of_eq (Eq.symm (encR56_len _))) rfl)<| .cons (.alloc (t := 1) (k := ⟨57,false,[.sc (.slice none 0 0),iW (0 : Int)]⟩) (lt1 rfl) (nm rfl) zero57 rfl rfl)<| .cons (.storePA (.t rfl) (.t rfl) sz57 rfl rfl (le1 rfl) (one_lit rfl) (by intro h; cases h) rfl)<| ARun.nil _ _ _) ?_
   refine AWP.vc (s' := ⟨[(3,iW x_5.1),(6,rW β1 a0 encR56),(7,iW (a0.length : Int)),(8,iW x_5.2),(5,.ptr 1 0)],[(1,⟨57,false,[rW β1 y_7.Pattern eW,iW y_7.Count]⟩)]⟩) (VC.sub (.of rfl) (.of rfl)) ?_
   obtain ⟨t3_8,ht3_8,h⟩ := letS h
   refine AWP.region (.cons (.move (lt1 rfl) (.t rfl))<| .cons (.fieldP (lt1 rfl) (.t rfl) fld57_1)<| .cons (.loadP (lt1 rfl) (.t rfl) one3 rfl rfl rfl)<| .cons (.add (lt1 rfl) (.t rfl) (.t rfl))<| .cons (.assign (lt1 rfl) (.t rfl))<| ARun.nil _ _ _) ?_
   refine AWP.vc (s' := ⟨[(3,iW t3_8),(6,rW β1 a0 encR56),(7,iW (a0.length : Int)),(8,iW x_5.2)],[]⟩) (by subst ht3_8; exact VC.sub (.of rfl) (.n _)) ?_
   obtain ⟨t8_9,ht8_9,h⟩ := letS h
   refine AWP.region (.cons (.add (lt1 rfl) (.t rfl) (.const _ _ _))<| .cons (.move (lt1 rfl) (.t rfl))<| ARun.nil _ _ _) ?_
   exact endJ (t3_8,t8_9) h (by subst ht8_9; exact VC.sub (.of rfl) (.n _))
  ·have h := iteF hc h
   refine AWP.exit ?_
   exact endJ x_5.1 h (VC.sub (.of rfl) (.n _))
theorem c37 (n : Nat) (a0 : (List R56)) {r : (List R56)} (h : m37 n a0 = some r) : Spec Try.prog 37 [] [rW false a0 encR56] [] (rW false r encR56) [] := by
 refine Spec.of (fn := Try.f37) Try.func37 Try.ntmps37 rfl rfl (le1 rfl) (fun w0 Zs Zb T0 ι0 => ?_)
 unfold m37 at h
 refine AWP.seq ?_
 refine AWP.region (.cons (.assign (lt1 rfl) (.const _ _ _))<| ARun.nil _ _ _) ?_
 refine AWP.vc (s' := ⟨[(0,rW false a0 encR56)],[]⟩) (VC.sub (.of rfl) (.n _)) ?_
 refine AWP.seq ?_
 refine AWP.region (.cons (.assign (lt1 rfl) (.const _ _ _))<| ARun.nil _ _ _) ?_
 refine AWP.vc (s' := ⟨[(0,rW false a0 encR56),(3,.sc (.slice none 0 0))],[]⟩) (VC.sub (.of rfl) (.n _)) ?_
 refine AWP.seq ?_
 refine AWP.seq ?_
 refine AWP.region (.cons (.move (lt1 rfl) (.t rfl))<| .cons (.lenRd (lt1 rfl) (.t rfl) Try.underlying53)<| .cons (.move (lt1 rfl) (.const _ _ _))<| ARun.nil _ _ _) ?_
 refine AWP.vc (s' := ⟨[(3,.sc (.slice none 0 0)),(6,rW false a0 encR56),(7,iW (a0.length : Int)),(8,iW (0 : Int))],[]⟩) (VC.sub (.of rfl) (.n _)) ?_
 refine AWP.joinB' (S := fun p_14 : (List R56) => ⟨[(3,.own 1 2 0 p_14.length)],[(1,⟨78,true,p_14.flatMap encR56⟩)]⟩) h (fun p_14 h => ?_) (fun k_15 h => ?_)
 ·refine AWP.seq ?_
  refine AWP.region (.cons (.move (lt1 rfl) (.t rfl))<| .cons (.assign (lt1 rfl) (.t rfl))<| ARun.nil _ _ _) ?_
  refine AWP.ret ?_
  obtain rfl := Option.some.inj h
  refine retJ (Res.vc (s' := ⟨[(2,rW false p_14 encR56)],[]⟩) (VC.trans (VC.frz (d := 2) (t := 1) rfl rfl encR56_len) (VC.sub (.of rfl) (.n _))) ?_)
  refine Res.drop (H := []) rfl ?_
  exact Res.of rfl (.cons (.tmp rfl) (.nil)) rfl rfl
 ·refine AWP.vc (VC.nilOwn (d := 3) (t := 1) (sz := 2) (E := 78) rfl (nm rfl)) ?_
  refine AWP.vc (s' := ⟨[(3,.own 1 2 0 ([] : List R56).length),(6,rW false a0 encR56),(7,iW (a0.length : Int)),(8,iW (0 : Int))],[(1,⟨78,true,([] : List R56).flatMap encR56⟩)]⟩) (VC.sub (.of rfl) (.of rfl)) ?_
  refine AWP.loopM (S := fun x_9 : Int × (List R56) => ⟨[(3,.own 1 2 0 x_9.2.length),(6,rW false a0 encR56),(7,iW (a0.length : Int)),(8,iW x_9.1)],[(1,⟨78,true,x_9.2.flatMap encR56⟩)]⟩) (x := ((0 : Int),([] : List R56))) (fun nx_10 x_9 h => ?_) h
  unfold m37_L1 at h
  refine AWP.seq ?_
  refine AWP.region (.cons (.lss (lt1 rfl) (.t rfl) (.t rfl))<| ARun.nil _ _ _) ?_
  refine AWP.vc (s' := ⟨[(3,.own 1 2 0 x_9.2.length),(6,rW false a0 encR56),(7,iW (a0.length : Int)),(8,iW x_9.1),(9,bW (decide (x_9.1 < (a0.length : Int))))],[(1,⟨78,true,x_9.2.flatMap encR56⟩)]⟩) (VC.sub (.of rfl) (.of rfl)) ?_
  refine AWP.seq ?_
  refine AWP.cond (.t rfl) (fun hc => ?_) (fun hc => ?_)
  ·have h := iteT hc h
   refine AWP.skip ?_
   refine AWP.seq ?_
   refine AWP.block ?_
   refine AWP.seq ?_
   obtain ⟨y_11,hy_11,h⟩ := bindS h
   refine AWP.region (.cons (.indexRd (enc := encR56) (lt1 rfl) (.t rfl) (.t rfl) Try.underlying53 sz57 encR56_len rfl hy_11)<| .cons (.loadRA (out := [rW false y_11.Pattern eW,iW y_11.Count]) (lt1 rfl) (.t rfl) agg57 (Nat.le_of_eq (Eq.symm (encR56_len _))) rfl)<| .cons (.alloc (t := 2) (k := ⟨57,false,[.sc (.slice none 0 0),iW (0 : Int)]⟩) (lt1 rfl) (nm rfl) zero57 rfl rfl)<| .cons (.storePA (.t rfl) (.t rfl) sz57 rfl rfl (le1 rfl) (one_lit rfl) (by intro h; cases h) rfl)<| ARun.nil _ _ _) ?_
   refine AWP.vc (s' := ⟨[(3,.own 1 2 0 x_9.2.length),(6,rW false a0 encR56),(7,iW (a0.length : Int)),(8,iW x_9.1),(5,.ptr 2 0)],[(2,⟨57,false,[rW false y_11.Pattern eW,iW y_11.Count]⟩),(1,⟨78,true,x_9.2.flatMap encR56⟩)]⟩) (VC.sub (.of rfl) (.of rfl)) ?_
   obtain ⟨l1_12,hl1_12,h⟩ := bindS h
   refine AWP.region (.cons (.move (lt1 rfl) (.t rfl))<| .cons (.loadPA (lt1 rfl) (.t rfl) agg57 rfl rfl rfl rfl)<| .cons (.buildSlice (t := 3) (out := ([(R56.mk y_11.Pattern y_11.Count)] : List R56).flatMap encR56) (lt1 rfl) (nm rfl) (.cons (.t rfl) (by first | exact ⟨rfl,rfl⟩ | rfl) (.nil)) Try.underlying49 zero78 el78 (by decide) (by decide) rfl (still_all encR56_still _))<| .cons (.app (enc := encR56) (lt1 rfl) (nm rfl) (.t rfl) (Src.own (.t rfl) rfl (lendAll encR56_len _) (flatMap_length encR56_len _) (one_all encR56_one _) (.inl rfl)) Try.underlying49 ⟨_,Try.underlying49,by intro k hk; cases hk⟩ el78 rfl encR56_len rfl rfl (by decide) hl1_12)<| .cons (.assign (lt1 rfl) (.t rfl))<| ARun.nil _ _ _) ?_
   refine AWP.vc (s' := ⟨[(3,.own 1 2 0 l1_12.length),(6,rW false a0 encR56),(7,iW (a0.length : Int)),(8,iW x_9.1)],[(1,⟨78,true,l1_12.flatMap encR56⟩)]⟩) (VC.sub (.of rfl) (.of rfl)) ?_
   obtain ⟨t8_13,ht8_13,h⟩ := letS h
   refine AWP.region (.cons (.add (lt1 rfl) (.t rfl) (.const _ _ _))<| .cons (.move (lt1 rfl) (.t rfl))<| ARun.nil _ _ _) ?_
   exact endJ (t8_13,l1_12) h (by subst ht8_13; exact VC.sub (.of rfl) (.of rfl))
  ·have h := iteF hc h
   refine AWP.exit ?_
   exact endJ x_9.2 h (VC.sub (.of rfl) (.of rfl))
theorem c36 {β1 : Bool} {β2 : Bool} (n : Nat) (a0 : (List R56)) (a1 : (List R56)) {r : Bool} (h : m36 n a0 a1 = some r) : Spec Try.prog 36 [] [rW β1 a0 encR56,rW β2 a1 encR56] [] (bW r) [] := by
 refine Spec.of (fn := Try.f36) Try.func36 Try.ntmps36 rfl rfl (le1 rfl) (fun w0 Zs Zb T0 ι0 => ?_)
 unfold m36 at h
 refine AWP.seq ?_
 refine AWP.region (.cons (.assign (lt1 rfl) (.const _ _ _))<| ARun.nil _ _ _) ?_
 refine AWP.vc (s' := ⟨[(0,rW β1 a0 encR56),(1,rW β2 a1 encR56)],[]⟩) (VC.sub (.of rfl) (.n _)) ?_
 refine AWP.seq ?_
 refine AWP.seq ?_
 refine AWP.region (.cons (.move (lt1 rfl) (.t rfl))<| .cons (.lenRd (lt1 rfl) (.t rfl) Try.underlying49)<| .cons (.move (lt1 rfl) (.t rfl))<| .cons (.lenRd (lt1 rfl) (.t rfl) Try.underlying49)<| .cons (.neq (lt1 rfl) (.t rfl) (.t rfl))<| ARun.nil _ _ _) ?_
 refine AWP.vc (s' := ⟨[(0,rW β1 a0 encR56),(1,rW β2 a1 encR56),(10,bW (!decide ((a0.length : Int) = (a1.length : Int))))],[]⟩) (VC.sub (.of rfl) (.n _)) ?_
 refine AWP.cond (.t rfl) (fun hc => ?_) (fun hc => ?_)
 ·have h := iteT hc h
  refine AWP.seq ?_
  refine AWP.region (.cons (.assign (lt1 rfl) (.const _ _ _))<| ARun.nil _ _ _) ?_
  refine AWP.ret ?_
  obtain rfl := Option.some.inj h
  refine retJ (Res.vc (s' := ⟨[(4,bW false)],[]⟩) (VC.sub (.of rfl) (.n _)) ?_)
  refine Res.drop (H := []) rfl ?_
  exact Res.of rfl (.cons (.tmp rfl) (.nil)) rfl rfl
 ·have h := iteF hc h
  refine AWP.skip ?_
  refine AWP.seq ?_
  refine AWP.seq ?_
  refine AWP.region (.cons (.assign (lt1 rfl) (.const _ _ _))<| ARun.nil _ _ _) ?_
  refine AWP.vc (s' := ⟨[(0,rW β1 a0 encR56),(1,rW β2 a1 encR56),(5,iW (0 : Int))],[]⟩) (VC.sub (.of rfl) (.n _)) ?_
  refine AWP.joinB' (S := fun p_16 : Unit => ⟨[],[]⟩) h (fun p_16 h => ?_) (fun k_17 h => ?_)
  ·refine AWP.seq ?_
   refine AWP.region (.cons (.assign (lt1 rfl) (.const _ _ _))<| ARun.nil _ _ _) ?_
   refine AWP.ret ?_
   obtain rfl := Option.some.inj h
   refine retJ (Res.vc (s' := ⟨[(4,bW true)],[]⟩) (VC.sub (.of rfl) (.n _)) ?_)
   refine Res.drop (H := []) rfl ?_
   exact Res.of rfl (.cons (.tmp rfl) (.nil)) rfl rfl
  ·refine AWP.vc (s' := ⟨[(0,rW β1 a0 encR56),(1,rW β2 a1 encR56),(5,iW (0 : Int))],[]⟩) (VC.sub (.of rfl) (.n _)) ?_
   refine AWP.loopM (S := fun x_8 : Int => ⟨[(0,rW β1 a0 encR56),(1,rW β2 a1 encR56),(5,iW x_8)],[]⟩) (x := (0 : Int)) (fun nx_9 x_8 h => ?_) h
   unfold m36_L1 at h
   refine AWP.seq ?_
   refine AWP.seq ?_
   refine AWP.region (.cons (.move (lt1 rfl) (.t rfl))<| .cons (.move (lt1 rfl) (.t rfl))<| .cons (.lenRd (lt1 rfl) (.t rfl) Try.underlying49)<| .cons (.lss (lt1 rfl) (.t rfl) (.t rfl))<| ARun.nil _ _ _) ?_
   refine AWP.vc (s' := ⟨[(0,rW β1 a0 encR56),(1,rW β2 a1 encR56),(5,iW x_8),(14,bW (decide (x_8 < (a0.length : Int))))],[]⟩) (VC.sub (.of rfl) (.n _)) ?_
   refine AWP.cond (.t rfl) (fun hc => ?_) (fun hc => ?_)
   ·have h := iteT hc h
    refine AWP.skip ?_
    refine AWP.seq ?_
    refine AWP.block ?_
    refine AWP.seq ?_
    obtain ⟨y_10,hy_10,h⟩ := bindS h
    obtain ⟨y_11,hy_11,h⟩ := bindS h
    obtain ⟨y_12,hy_12,h⟩ := bindS h
    obtain ⟨y_13,hy_13,h⟩ := bindS h
    obtain ⟨y_14,hy_14,h⟩ := bindS h
    refine AWP.draw (s' := ⟨[(0,rW β1 a0 encR56),(1,rW β2 a1 encR56),(5,iW x_8),(41,bW ((!decide (y_10.Count = y_11.Count)) || (!y_14)))],[]⟩) mixed [⟨0,rW β1 a0 encR56,none,[]⟩,⟨1,rW β2 a1 encR56,none,[]⟩,⟨5,iW x_8,none,[]⟩,⟨14,bW (decide (x_8 < (a0.length : Int))),none,[]⟩,⟨17,rW β1 a0 encR56,some 0,[]⟩,⟨18,iW x_8,some 1,[]⟩,⟨19,.rptr β1 [rW false y_10.Pattern eW,iW y_10.Count],some 2,[]⟩,⟨20,.rptr β1 [iW y_10.Count],some 3,[]⟩,⟨21,iW y_10.Count,some 4,[]⟩,⟨22,rW β2 a1 encR56,some 5,[]⟩,⟨23,iW x_8,some 6,[]⟩,⟨24,.rptr β2 [rW false y_11.Pattern eW,iW y_11.Count],some 7,[]⟩,⟨25,.rptr β2 [iW y_11.Count],some 8,[]⟩,⟨26,iW y_11.Count,some 9,[]⟩,⟨27,bW (!decide (y_10.Count = y_11.Count)),some 10,[]⟩,⟨28,bW (!decide (y_10.Count = y_11.Count)),some 11,[]⟩,⟨29,.gd (!(!decide (y_10.Count = y_11.Count))) (rW β1 a0 encR56),some 12,[]⟩,⟨30,.gd (!(!decide (y_10.Count = y_11.Count))) (iW x_8),some 13,[]⟩,⟨31,.gd (!(!decide (y_10.Count = y_11.Count))) (.rptr β1 [rW false y_12.Pattern eW,iW y_12.Count]),some 14,[]⟩,⟨32,.gd (!(!decide (y_10.Count = y_11.Count))) (.rptr β1 [rW false y_12.Pattern eW,iW y_12.Count]),some 15,[]⟩,⟨33,.gd (!(!decide (y_10.Count = y_11.Count))) (rW β1 y_12.Pattern eW),some 16,[]⟩,⟨34,.gd (!(!decide (y_10.Count = y_11.Count))) (rW β2 a1 encR56),some 17,[]⟩,⟨35,.gd (!(!decide (y_10.Count = y_11.Count))) (iW x_8),some 18,[]⟩,⟨36,.gd (!(!decide (y_10.Count = y_11.Count))) (.rptr β2 [rW false y_13.Pattern eW,iW y_13.Count]),some 19,[]⟩,⟨37,.gd (!(!decide (y_10.Count = y_11.Count))) (.rptr β2 [rW false y_13.Pattern eW,iW y_13.Count]),some 20,[]⟩,⟨38,.gd (!(!decide (y_10.Count = y_11.Count))) (rW β2 y_13.Pattern eW),some 21,[]⟩,⟨39,.gd (!(!decide (y_10.Count = y_11.Count))) (bW y_14),some 22,[]⟩,⟨40,.gd (!(!decide (y_10.Count = y_11.Count))) (bW (!y_14)),some 23,[]⟩,⟨41,bW ((!decide (y_10.Count = y_11.Count)) || (!y_14)),some 24,[]⟩] [⟨[0],0,0,some (17,rW β1 a0 encR56),[]⟩,⟨[2],0,0,some (18,iW x_8),[]⟩,⟨[4,5],0,0,some (19,.rptr β1 [rW false y_10.Pattern eW,iW y_10.Count]),[]⟩,⟨[6],0,0,some (20,.rptr β1 [iW y_10.Count]),[]⟩,⟨[7],0,0,some (21,iW y_10.Count),[]⟩,⟨[1],0,0,some (22,rW β2 a1 encR56),[]⟩,⟨[2],0,0,some (23,iW x_8),[]⟩,⟨[9,10],0,0,some (24,.rptr β2 [rW false y_11.Pattern eW,iW y_11.Count]),[]⟩,⟨[11],0,0,some (25,.rptr β2 [iW y_11.Count]),[]⟩,⟨[12],0,0,some (26,iW y_11.Count),[]⟩,⟨[8,13],0,0,some (27,bW (!decide (y_10.Count = y_11.Count))),[]⟩,⟨[14],0,0,some (28,bW (!decide (y_10.Count = y_11.Count))),[]⟩,⟨[15,0],0,0,some (29,.gd (!(!decide (y_10.Count = y_11.Count))) (rW β1 a0 encR56)),[]⟩,⟨[15,2],0,0,some (30,.gd (!(!decide (y_10.Count = y_11.Count))) (iW x_8)),[]⟩,⟨[15,16,17],0,0,some (31,.gd (!(!decide (y_10.Count = y_11.Count))) (.rptr β1 [rW false y_12.Pattern eW,iW y_12.Count])),[]⟩,⟨[15,18],0,0,some (32,.gd (!(!decide (y_10.Count = y_11.Count))) (.rptr β1 [rW false y_12.Pattern eW,iW y_12.Count])),[]⟩,⟨[15,19],0,0,some (33,.gd (!(!decide (y_10.Count = y_11.Count))) (rW β1 y_12.Pattern eW)),[]⟩,⟨[15,1],0,0,some (34,.gd (!(!decide (y_10.Count = y_11.Count))) (rW β2 a1 encR56)),[]⟩,⟨[15,2],0,0,some (35,.gd (!(!decide (y_10.Count = y_11.Count))) (iW x_8)),[]⟩,⟨[15,21,22],0,0,some (36,.gd (!(!decide (y_10.Count = y_11.Count))) (.rptr β2 [rW false y_13.Pattern eW,iW y_13.Count])),[]⟩,⟨[15,23],0,0,some (37,.gd (!(!decide (y_10.Count = y_11.Count))) (.rptr β2 [rW false y_13.Pattern eW,iW y_13.Count])),[]⟩,⟨[15,24],0,0,some (38,.gd (!(!decide (y_10.Count = y_11.Count))) (rW β2 y_13.Pattern eW)),[]⟩,⟨[15,20,25],0,0,some (39,.gd (!(!decide (y_10.Count = y_11.Count))) (bW y_14)),[]⟩,⟨[15,26],0,0,some (40,.gd (!(!decide (y_10.Count = y_11.Count))) (bW (!y_14))),[]⟩,⟨[15,27],0,0,some (41,bW ((!decide (y_10.Count = y_11.Count)) || (!y_14))),[]⟩] [] [[]] [[],[],[0,1],[0,1,2],[0,1,2,3],[],[],[5,6],[5,6,7],[5,6,7,8],[0,1,2,3,4,5,6,7,8,9],[0,1,2,3,4,5,6,7,8,9,10],[0,1,2,3,4,5,6,7,8,9,10,11],[0,1,2,3,4,5,6,7,8,9,10,11],[0,1,2,3,4,5,6,7,8,9,10,11,12,13],[0,1,2,3,4,5,6,7,8,9,10,11,12,13,14],[0,1,2,3,4,5,6,7,8,9,10,11,12,13,14,15],[0,1,2,3,4,5,6,7,8,9,10,11],[0,1,2,3,4,5,6,7,8,9,10,11],[0,1,2,3,4,5,6,7,8,9,10,11,17,18],[0,1,2,3,4,5,6,7,8,9,10,11,17,18,19],[0,1,2,3,4,5,6,7,8,9,10,11,17,18,19,20],[0,1,2,3,4,5,6,7,8,9,10,11,12,13,14,15,16,17,18,19,20,21],[0,1,2,3,4,5,6,7,8,9,10,11,12,13,14,15,16,17,18,19,20,21,22],[0,1,2,3,4,5,6,7,8,9,10,11,12,13,14,15,16,17,18,19,20,21,22,23]] (by kernel_rfl) (by kernel_rfl) (BornL.ok (.o<| .o<| .o<| .o<| .b rfl rfl<| .b rfl rfl<| .b rfl rfl<| .b rfl rfl<| .b rfl rfl<| .b rfl rfl<| .b rfl rfl<| .b rfl rfl<| .b rfl rfl<| .b rfl rfl<| .b rfl rfl<| .b rfl rfl<| .b rfl rfl<| .b rfl rfl<| .b rfl rfl<| .b rfl rfl<| .b rfl rfl<| .b rfl rfl<| .b rfl rfl<| .b rfl rfl<| .b rfl rfl<| .b rfl rfl<| .b rfl rfl<| .b rfl rfl<| .b rfl rfl<| .n)) (BaseL.ok (.o rfl<| .o rfl<| .o rfl<| .o rfl<| .b<| .b<| .b<| .b<| .b<| .b<| .b<| .b<| .b<| .b<| .b<| .b<| .b<| .b<| .b<| .b<| .b<| .b<| .b<| .b<| .b<| .b<| .b<| .b<| .b<| .n)) rfl (by decide) (allLt rfl) (.pure rfl (fun H => .put (fun E hE => .move (lt1 rfl) (.tmp (hE.at (k := 0) rfl))))<| .pure rfl (fun H => .put (fun E hE => .move (lt1 rfl) (.tmp (hE.at (k := 0) rfl))))<| .pure rfl (fun H => .put (fun E hE => .indexRd (enc := encR56) (lt1 rfl) (.tmp (hE.at (k := 0) rfl)) (.tmp (hE.at (k := 1) rfl)) Try.underlying49 sz78 encR56_len rfl hy_10))<| .pure rfl (fun H => .put (fun E hE => .fieldR (lt1 rfl) (.tmp (hE.at (k := 0) rfl)) fld78_1 rfl))<| .pure rfl (fun H => .put (fun E hE => .loadR (v := iW y_10.Count) (lt1 rfl) (.tmp (hE.at (k := 0) rfl)) one3 rfl))<| .pure rfl (fun H => .put (fun E hE => .move (lt1 rfl) (.tmp (hE.at (k := 0) rfl))))<| .pure rfl (fun H => .put (fun E hE => .move (lt1 rfl) (.tmp (hE.at (k := 0) rfl))))<| .pure rfl (fun H => .put (fun E hE => .indexRd (enc := encR56) (lt1 rfl) (.tmp (hE.at (k := 0) rfl)) (.tmp (hE.at (k := 1) rfl)) Try.underlying49 sz78 encR56_len rfl hy_11))<| .pure rfl (fun H => .put (fun E hE => .fieldR (lt1 rfl) (.tmp (hE.at (k := 0) rfl)) fld78_1 rfl))<| .pure rfl (fun H => .put (fun E hE => .loadR (v := iW y_11.Count) (lt1 rfl) (.tmp (hE.at (k := 0) rfl)) one3 rfl))<| .pure rfl (fun H => .put (fun E hE => .neq (lt1 rfl) (.tmp (hE.at (k := 0) rfl)) (.tmp (hE.at (k := 1) rfl))))<| .pure rfl (fun H => .put (fun E hE => .move (lt1 rfl) (.tmp (hE.at (k := 0) rfl))))<| .pure rfl (fun H => .gput (b := (!decide (y_10.Count = y_11.Count))) (want := false) (j := 11) (dj := 28) rfl (lt1 rfl) (lt1 rfl) (fun E hE => hE.at (k := 0) rfl) (fun hg E hE => .move (lt1 rfl) (.tmp (hE.at (k := 1) rfl))))<| .pure rfl (fun H => .gput (b := (!decide (y_10.Count = y_11.Count))) (want := false) (j := 11) (dj := 28) rfl (lt1 rfl) (lt1 rfl) (fun E hE => hE.at (k := 0) rfl) (fun hg E hE => .move (lt1 rfl) (.tmp (hE.at (k := 1) rfl))))<| .pure rfl (fun H => .gput (b := (!decide (y_10.Count = y_11.Count))) (want := false) (j := 11) (dj := 28) rfl (lt1 rfl) (lt1 rfl) (fun E hE => hE.at (k := 0) rfl) (fun hg E hE => .indexRd (enc := encR56) (lt1 rfl) (.gd hg (.tmp (hE.at (k := 1) rfl))) (.gd hg (.tmp (hE.at (k := 2) rfl))) Try.underlying49 sz78 encR56_len rfl (gdB hy_12 hg)))<| .pure rfl (fun H => .gput (b := (!decide (y_10.Count = y_11.Count))) (want := false) (j := 11) (dj := 28) rfl (lt1 rfl) (lt1 rfl) (fun E hE => hE.at (k := 0) rfl) (fun hg E hE => .fieldR (sub := [rW false y_12.Pattern eW,iW y_12.Count]) (lt1 rfl) (.gd hg (.tmp (hE.at (k := 1) rfl))) fld78_0 rfl))<| .pure rfl (fun H => .gput (b := (!decide (y_10.Count = y_11.Count))) (want := false) (j := 11) (dj := 28) rfl (lt1 rfl) (lt1 rfl) (fun E hE => hE.at (k := 0) rfl) (fun hg E hE => .loadR (v := rW β1 y_12.Pattern eW) (lt1 rfl) (.gd hg (.tmp (hE.at (k := 1) rfl))) one22 rfl))<| .pure rfl (fun H => .gput (b := (!decide (y_10.Count = y_11.Count))) (want := false) (j := 11) (dj := 28) rfl (lt1 rfl) (lt1 rfl) (fun E hE => hE.at (k := 0) rfl) (fun hg E hE => .move (lt1 rfl) (.tmp (hE.at (k := 1) rfl))))<| .pure rfl (fun H => .gput (b := (!decide (y_10.Count = y_11.Count))) (want := false) (j := 11) (dj := 28) rfl (lt1 rfl) (lt1 rfl) (fun E hE => hE.at (k := 0) rfl) (fun hg E hE => .move (lt1 rfl) (.tmp (hE.at (k := 1) rfl))))<| .pure rfl (fun H => .gput (b := (!decide (y_10.Count = y_11.Count))) (want := false) (j := 11) (dj := 28) rfl (lt1 rfl) (lt1 rfl) (fun E hE => hE.at (k := 0) rfl) (fun hg E hE => .indexRd (enc := encR56) (lt1 rfl) (.gd hg (.tmp (hE.at (k := 1) rfl))) (.gd hg (.tmp (hE.at (k := 2) rfl))) Try.underlying49 sz78 encR56_len rfl (gdB hy_13 hg)))<| .pure rfl (fun H => .gput (b := (!decide (y_10.Count = y_11.Count))) (want := false) (j := 11) (dj := 28) rfl (lt1 rfl) (lt1 rfl) (fun E hE => hE.at (k := 0) rfl) (fun hg E hE => .fieldR (sub := [rW false y_13.Pattern eW,iW y_13.Count]) (lt1 rfl) (.gd hg (.tmp (hE.at (k := 1) rfl))) fld78_0 rfl))<| .pure rfl (fun H => .gput (b := (!decide (y_10.Count = y_11.Count))) (want := false) (j := 11) (dj := 28) rfl (lt1 rfl) (lt1 rfl) (fun E hE => hE.at (k := 0) rfl) (fun hg E hE => .loadR (v := rW β2 y_13.Pattern eW) (lt1 rfl) (.gd hg (.tmp (hE.at (k := 1) rfl))) one22 rfl))<| .pure rfl (fun H => .gput (b := (!decide (y_10.Count = y_11.Count))) (want := false) (j := 11) (dj := 28) rfl (lt1 rfl) (lt1 rfl) (fun E hE => hE.at (k := 0) rfl) (fun hg E hE => .call0 (bw := false) (lt1 rfl) (c34 (β1 := β1) (β2 := β2) n y_12.Pattern y_13.Pattern (gdB hy_14 hg)) (.cons (.gd hg (.tmp (hE.at (k := 1) rfl))) (.ren rfl) (.cons (.gd hg (.tmp (hE.at (k := 2) rfl))) (.ren rfl) (.nil))) rfl))<| .pure rfl (fun H => .gput (b := (!decide (y_10.Count = y_11.Count))) (want := false) (j := 11) (dj := 28) rfl (lt1 rfl) (lt1 rfl) (fun E hE => hE.at (k := 0) rfl) (fun hg E hE => .not (lt1 rfl) (.gd hg (.tmp (hE.at (k := 1) rfl)))))<| .pure rfl (fun H => .put (fun E hE => .pickOr (lt1 rfl) (.tmp (hE.at (k := 0) rfl)) (.const _ _ _) (.tmp (hE.at (k := 1) rfl))))<| .nil _) (fun E hE => .c (DInv.at hE (k := 0) rfl rfl rfl)<| .c (DInv.at hE (k := 1) rfl rfl rfl)<| .c (DInv.at hE (k := 2) rfl rfl rfl)<| .c (DInv.at hE (k := 28) rfl rfl rfl)<| .n _) rfl ?_
    refine AWP.vc (s' := ⟨[(0,rW β1 a0 encR56),(1,rW β2 a1 encR56),(5,iW x_8),(41,bW ((!decide (y_10.Count = y_11.Count)) || (!y_14)))],[]⟩) (VC.sub (.of rfl) (.n _)) ?_
    refine AWP.cond (.t rfl) (fun hc => ?_) (fun hc => ?_)
    ·have h := iteT hc h
     refine AWP.seq ?_
     refine AWP.region (.cons (.assign (lt1 rfl) (.const _ _ _))<| ARun.nil _ _ _) ?_
     refine AWP.ret ?_
     obtain rfl := Option.some.inj h
     refine retJ (Res.vc (s' := ⟨[(4,bW false)],[]⟩) (VC.sub (.of rfl) (.n _)) ?_)
     refine Res.drop (H := []) rfl ?_
     exact Res.of rfl (.cons (.tmp rfl) (.nil)) rfl rfl
    ·have h := iteF hc h
     refine AWP.skip ?_
     obtain ⟨t5_15,ht5_15,h⟩ := letS h
     refine AWP.region (.cons (.move (lt1 rfl) (.t rfl))<| .cons (.add (lt1 rfl) (.t rfl) (.const _ _ _))<| .cons (.assign (lt1 rfl) (.t rfl))<| ARun.nil _ _ _) ?_
     exact endJ t5_15 h (by subst ht5_15; exact VC.sub (.of rfl) (.n _))
   ·have h := iteF hc h
    refine AWP.exit ?_
    exact endJ () h (VC.sub (.n _) (.n _))
theorem c33o {β1 : Bool} {β2 : Bool} {β3 : Bool} (n : Nat) (a0 : R23) (a1 : (List R56)) {r : ((List Int) × Int)} (h : m33o n a0 a1 = some r) : Spec Try.prog 33 [] [.agg [rW β1 a0.Lengths eW,rW β2 a0.Demand eW,iW a0.Stock,iW a0.Kerf],rW β3 a1 encR56] [] (.tup [.own 2 1 0 r.1.length,iW r.2]) [(2,⟨3,true,r.1.flatMap eW⟩)] := by
 refine Spec.of (fn := Try.f33) Try.func33 Try.ntmps33 rfl rfl (le1 rfl) (fun w0 Zs Zb T0 ι0 => ?_)
 unfold m33o at h
 refine AWP.seq ?_
 refine AWP.region (.cons (.box (t := 1) (n := 4) (lt1 rfl) (nm rfl) (.t rfl) (by first | exact ⟨rfl,rfl⟩ | rfl) rfl)<| .cons (.assign (lt1 rfl) (.const _ _ _))<| .cons (.assign (lt1 rfl) (.const _ _ _))<| ARun.nil _ _ _) ?_
 refine AWP.vc (s' := ⟨[(1,rW β3 a1 encR56),(2,.ptr 1 0)],[(1,⟨32,false,[rW β1 a0.Lengths eW,rW β2 a0.Demand eW,iW a0.Stock,iW a0.Kerf]⟩)]⟩) (VC.sub (.of rfl) (.of rfl)) ?_
 refine AWP.seq ?_
 refine AWP.seq ?_
 obtain ⟨y_1,hy_1,h⟩ := bindS h
 refine AWP.region (.cons (.loadPA (lt1 rfl) (.t rfl) agg32 rfl rfl rfl rfl)<| .cons (.move (lt1 rfl) (.t rfl))<| .cons (.call0 (bw := false) (lt1 rfl) (c59 (β1 := β1) (β2 := β2) (β3 := β3) n (R23.mk a0.Lengths a0.Demand a0.Stock a0.Kerf) a1 hy_1) (.cons (.t rfl) (.ren rfl) (.cons (.t rfl) (.ren rfl) (.nil))) rfl)<| .cons (.not (lt1 rfl) (.t rfl))<| ARun.nil _ _ _) ?_
 refine AWP.vc (s' := ⟨[(1,rW β3 a1 encR56),(2,.ptr 1 0),(14,bW (!y_1))],[(1,⟨32,false,[rW β1 a0.Lengths eW,rW β2 a0.Demand eW,iW a0.Stock,iW a0.Kerf]⟩)]⟩) (VC.sub (.of rfl) (.of rfl)) ?_
 refine AWP.cond (.t rfl) (fun hc => ?_) (fun hc => ?_)
 ·have h := iteT hc h
  refine AWP.seq ?_
  refine AWP.region (.cons (.assign (lt1 rfl) (.const _ _ _))<| .cons (.assign (lt1 rfl) (.const _ _ _))<| ARun.nil _ _ _) ?_
  refine AWP.ret ?_
  obtain rfl := Option.some.inj h
  refine retJ (Res.vc (s' := ⟨[(4,.own 2 1 0 ([] : List Int).length),(5,iW (1 : Int))],[(2,⟨3,true,([] : List Int).flatMap eW⟩)]⟩) (VC.trans (VC.nilOwn (d := 4) (t := 2) (sz := 1) (E := 3) rfl (nm rfl)) (VC.sub (.of rfl) (.of rfl))) ?_)
  refine Res.sub (H := [(2,⟨3,true,([] : List Int).flatMap eW⟩)]) (.of rfl) ?_
  exact Res.of rfl (.cons (.tmp rfl) (.cons (.tmp rfl) (.nil))) rfl rfl
 ·have h := iteF hc h
  refine AWP.skip ?_
  refine AWP.seq ?_
  obtain ⟨l2_2,hl2_2,h⟩ := bindS h
  refine AWP.region (.cons (.fieldP (lt1 rfl) (.t rfl) fld32_0)<| .cons (.loadP (lt1 rfl) (.t rfl) one22 rfl rfl rfl)<| .cons (.lenRd (lt1 rfl) (.t rfl) Try.underlying22)<| .cons (.mkS (enc := eW) (t := 2) (lt1 rfl) (nm rfl) (.t rfl) (.t rfl) Try.underlying22 zero3 el3 rfl (encI_len .i64) (by decide) hl2_2)<| .cons (.assign (lt1 rfl) (.t rfl))<| ARun.nil _ _ _) ?_
  refine AWP.vc (s' := ⟨[(1,rW β3 a1 encR56),(6,.own 2 1 0 l2_2.length)],[(2,⟨3,true,l2_2.flatMap eW⟩)]⟩) (VC.sub (.of rfl) (.of rfl)) ?_
  refine AWP.seq ?_
  refine AWP.seq ?_
  refine AWP.region (.cons (.move (lt1 rfl) (.t rfl))<| .cons (.lenRd (lt1 rfl) (.t rfl) Try.underlying53)<| .cons (.move (lt1 rfl) (.const _ _ _))<| ARun.nil _ _ _) ?_
  refine AWP.vc (s' := ⟨[(6,.own 2 1 0 l2_2.length),(19,rW β3 a1 encR56),(20,iW (a1.length : Int)),(21,iW (0 : Int))],[(2,⟨3,true,l2_2.flatMap eW⟩)]⟩) (VC.sub (.of rfl) (.of rfl)) ?_
  refine AWP.joinB' (S := fun p_76 : (List Int) => ⟨[(6,.own 2 1 0 p_76.length)],[(2,⟨3,true,p_76.flatMap eW⟩)]⟩) h (fun p_76 h => ?_) (fun k_77 h => ?_)
  ·refine AWP.seq ?_
   refine AWP.region (.cons (.move (lt1 rfl) (.t rfl))<| .cons (.assign (lt1 rfl) (.t rfl))<| .cons (.assign (lt1 rfl) (.const _ _ _))<| ARun.nil _ _ _) ?_
   refine AWP.ret ?_
   obtain rfl := Option.some.inj h
   refine retJ (Res.vc (s' := ⟨[(4,.own 2 1 0 p_76.length),(5,iW (0 : Int))],[(2,⟨3,true,p_76.flatMap eW⟩)]⟩) (VC.sub (.of rfl) (.of rfl)) ?_)
   refine Res.sub (H := [(2,⟨3,true,p_76.flatMap eW⟩)]) (.of rfl) ?_
   exact Res.of rfl (.cons (.tmp rfl) (.cons (.tmp rfl) (.nil))) rfl rfl
  ·refine AWP.vc (s' := ⟨[(6,.own 2 1 0 l2_2.length),(19,rW β3 a1 encR56),(20,iW (a1.length : Int)),(21,iW (0 : Int))],[(2,⟨3,true,l2_2.flatMap eW⟩)]⟩) (VC.sub (.of rfl) (.of rfl)) ?_
   refine AWP.loopM (S := fun x_51 : Int × (List Int) => ⟨[(6,.own 2 1 0 x_51.2.length),(19,rW β3 a1 encR56),(20,iW (a1.length : Int)),(21,iW x_51.1)],[(2,⟨3,true,x_51.2.flatMap eW⟩)]⟩) (x := ((0 : Int),l2_2)) (fun nx_52 x_51 h => ?_) h
   unfold m33o_L3 at h
   refine AWP.seq ?_
   refine AWP.region (.cons (.lss (lt1 rfl) (.t rfl) (.t rfl))<| ARun.nil _ _ _) ?_
   refine AWP.vc (s' := ⟨[(6,.own 2 1 0 x_51.2.length),(19,rW β3 a1 encR56),(20,iW (a1.length : Int)),(21,iW x_51.1),(22,bW (decide (x_51.1 < (a1.length : Int))))],[(2,⟨3,true,x_51.2.flatMap eW⟩)]⟩) (VC.sub (.of rfl) (.of rfl)) ?_
   refine AWP.seq ?_
   refine AWP.cond (.t rfl) (fun hc => ?_) (fun hc => ?_)
   ·have h := iteT hc h
    refine AWP.skip ?_
    refine AWP.seq ?_
    refine AWP.block ?_
    refine AWP.seq ?_
    obtain ⟨y_53,hy_53,h⟩ := bindS h
    refine AWP.region (.cons (.indexRd (enc := encR56) (lt1 rfl) (.t rfl) (.t rfl) Try.underlying53 sz57 encR56_len rfl hy_53)<| .cons (.loadRA (out := [rW β3 y_53.Pattern eW,iW y_53.Count]) (lt1 rfl) (.t rfl) agg57 (Nat.le_of_eq (Eq.symm (encR56_len _))) rfl)<| .cons (.alloc (t := 3) (k := ⟨57,false,[.sc (.slice none 0 0),iW (0 : Int)]⟩) (lt1 rfl) (nm rfl) zero57 rfl rfl)<| .cons (.storePA (.t rfl) (.t rfl) sz57 rfl rfl (le1 rfl) (one_lit rfl) (by intro h; cases h) rfl)<| ARun.nil _ _ _) ?_
    refine AWP.vc (s' := ⟨[(6,.own 2 1 0 x_51.2.length),(19,rW β3 a1 encR56),(20,iW (a1.length : Int)),(21,iW x_51.1),(8,.ptr 3 0)],[(3,⟨57,false,[rW β3 y_53.Pattern eW,iW y_53.Count]⟩),(2,⟨3,true,x_51.2.flatMap eW⟩)]⟩) (VC.sub (.of rfl) (.of rfl)) ?_
    refine AWP.seq ?_
    refine AWP.region (.cons (.fieldP (lt1 rfl) (.t rfl) fld57_0)<| .cons (.loadP (lt1 rfl) (.t rfl) one22 rfl rfl rfl)<| .cons (.lenRd (lt1 rfl) (.t rfl) Try.underlying22)<| .cons (.move (lt1 rfl) (.const _ _ _))<| ARun.nil _ _ _) ?_
    refine AWP.vc (s' := ⟨[(6,.own 2 1 0 x_51.2.length),(19,rW β3 a1 encR56),(20,iW (a1.length : Int)),(21,iW x_51.1),(8,.ptr 3 0),(26,rW β3 y_53.Pattern eW),(27,iW (y_53.Pattern.length : Int)),(28,iW (0 : Int))],[(3,⟨57,false,[rW β3 y_53.Pattern eW,iW y_53.Count]⟩),(2,⟨3,true,x_51.2.flatMap eW⟩)]⟩) (VC.sub (.of rfl) (.of rfl)) ?_
    refine AWP.joinB' (S := fun p_73 : (List Int) => ⟨[(6,.own 2 1 0 p_73.length),(19,rW β3 a1 encR56),(20,iW (a1.length : Int)),(21,iW x_51.1)],[(2,⟨3,true,p_73.flatMap eW⟩)]⟩) h (fun p_73 h => ?_) (fun k_74 h => ?_)
    ·obtain ⟨t21_75,ht21_75,h⟩ := letS h
     refine AWP.region (.cons (.add (lt1 rfl) (.t rfl) (.const _ _ _))<| .cons (.move (lt1 rfl) (.t rfl))<| ARun.nil _ _ _) ?_
     exact endJ (t21_75,p_73) h (by subst ht21_75; exact VC.sub (.of rfl) (.of rfl))
    ·refine AWP.vc (s' := ⟨[(6,.own 2 1 0 x_51.2.length),(8,.ptr 3 0),(19,rW β3 a1 encR56),(20,iW (a1.length : Int)),(21,iW x_51.1),(26,rW β3 y_53.Pattern eW),(27,iW (y_53.Pattern.length : Int)),(28,iW (0 : Int))],[(2,⟨3,true,x_51.2.flatMap eW⟩),(3,⟨57,false,[rW β3 y_53.Pattern eW,iW y_53.Count]⟩)]⟩) (VC.sub (.of rfl) (.of rfl)) ?_
     refine AWP.loopM (S := fun x_66 : Int × (List Int) => ⟨[(6,.own 2 1 0 x_66.2.length),(8,.ptr 3 0),(19,rW β3 a1 encR56),(20,iW (a1.length : Int)),(21,iW x_51.1),(26,rW β3 y_53.Pattern eW),(27,iW (y_53.Pattern.length : Int)),(28,iW x_66.1)],[(2,⟨3,true,x_66.2.flatMap eW⟩),(3,⟨57,false,[rW β3 y_53.Pattern eW,iW y_53.Count]⟩)]⟩) (x := ((0 : Int),x_51.2)) (fun nx_67 x_66 h => ?_) h
     unfold m33o_L4 at h
     refine AWP.seq ?_
     refine AWP.region (.cons (.lss (lt1 rfl) (.t rfl) (.t rfl))<| ARun.nil _ _ _) ?_
     refine AWP.vc (s' := ⟨[(6,.own 2 1 0 x_66.2.length),(8,.ptr 3 0),(19,rW β3 a1 encR56),(20,iW (a1.length : Int)),(21,iW x_51.1),(26,rW β3 y_53.Pattern eW),(27,iW (y_53.Pattern.length : Int)),(28,iW x_66.1),(29,bW (decide (x_66.1 < (y_53.Pattern.length : Int))))],[(2,⟨3,true,x_66.2.flatMap eW⟩),(3,⟨57,false,[rW β3 y_53.Pattern eW,iW y_53.Count]⟩)]⟩) (VC.sub (.of rfl) (.of rfl)) ?_
     refine AWP.seq ?_
     refine AWP.cond (.t rfl) (fun hc => ?_) (fun hc => ?_)
     ·have h := iteT hc h
      refine AWP.skip ?_
      refine AWP.seq ?_
      refine AWP.block ?_
      refine AWP.seq ?_
      obtain ⟨y_68,hy_68,h⟩ := bindS h
      refine AWP.region (.cons (.move (lt1 rfl) (.t rfl))<| .cons (.indexRd (enc := eW) (lt1 rfl) (.t rfl) (.t rfl) Try.underlying22 sz3 (encI_len .i64) rfl hy_68)<| .cons (.loadR (v := iW y_68) (lt1 rfl) (.t rfl) one3 rfl)<| .cons (.assign (lt1 rfl) (.t rfl))<| .cons (.assign (lt1 rfl) (.t rfl))<| ARun.nil _ _ _) ?_
      refine AWP.vc (s' := ⟨[(6,.own 2 1 0 x_66.2.length),(8,.ptr 3 0),(19,rW β3 a1 encR56),(20,iW (a1.length : Int)),(21,iW x_51.1),(26,rW β3 y_53.Pattern eW),(27,iW (y_53.Pattern.length : Int)),(28,iW x_66.1),(9,iW x_66.1),(10,iW y_68)],[(2,⟨3,true,x_66.2.flatMap eW⟩),(3,⟨57,false,[rW β3 y_53.Pattern eW,iW y_53.Count]⟩)]⟩) (VC.sub (.of rfl) (.of rfl)) ?_
      obtain ⟨y_69,hy_69,h⟩ := bindS h
      obtain ⟨y_70,hy_70,h⟩ := bindS h
      obtain ⟨l2_71,hl2_71,h⟩ := bindS h
      refine AWP.draw (s' := ⟨[(6,.own 2 1 0 x_66.2.length),(8,.ptr 3 0),(19,rW β3 a1 encR56),(20,iW (a1.length : Int)),(21,iW x_51.1),(26,rW β3 y_53.Pattern eW),(27,iW (y_53.Pattern.length : Int)),(28,iW x_66.1)],[(2,⟨3,true,l2_71.flatMap eW⟩),(3,⟨57,false,[rW β3 y_53.Pattern eW,iW y_53.Count]⟩)]⟩) mixed [⟨6,.own 2 1 0 x_66.2.length,none,[]⟩,⟨8,.ptr 3 0,none,[]⟩,⟨9,iW x_66.1,none,[]⟩,⟨10,iW y_68,none,[]⟩,⟨19,rW β3 a1 encR56,none,[]⟩,⟨20,iW (a1.length : Int),none,[]⟩,⟨21,iW x_51.1,none,[]⟩,⟨26,rW β3 y_53.Pattern eW,none,[]⟩,⟨27,iW (y_53.Pattern.length : Int),none,[]⟩,⟨28,iW x_66.1,none,[]⟩,⟨33,.own 2 1 0 x_66.2.length,some 0,[]⟩,⟨34,iW x_66.1,some 1,[]⟩,⟨35,.ptr 2 (0 + (x_66.1).toNat * 1),some 2,[]⟩,⟨36,iW y_69,some 3,[]⟩,⟨37,iW y_68,some 4,[]⟩,⟨38,.ptr 3 (0 + 1),some 5,[]⟩,⟨39,iW y_53.Count,some 6,[]⟩,⟨40,iW (IntKind.wrap .i64 (y_68 * y_53.Count)),some 7,[]⟩,⟨41,iW (IntKind.wrap .i64 (y_69 + (IntKind.wrap .i64 (y_68 * y_53.Count)))),some 8,[]⟩,⟨42,.ptr 2 (0 + (x_66.1).toNat * 1),some 9,[]⟩] [⟨[0],0,0,some (33,.own 2 1 0 x_66.2.length),[]⟩,⟨[2],0,1,some (34,iW x_66.1),[]⟩,⟨[10,11],0,0,some (35,.ptr 2 (0 + (x_66.1).toNat * 1)),[]⟩,⟨[12],0,0,some (36,iW y_69),[]⟩,⟨[3],0,1,some (37,iW y_68),[]⟩,⟨[1],0,0,some (38,.ptr 3 (0 + 1)),[]⟩,⟨[15],0,0,some (39,iW y_53.Count),[]⟩,⟨[14,16],0,1,some (40,iW (IntKind.wrap .i64 (y_68 * y_53.Count))),[]⟩,⟨[13,17],0,1,some (41,iW (IntKind.wrap .i64 (y_69 + (IntKind.wrap .i64 (y_68 * y_53.Count))))),[]⟩,⟨[10,11],0,0,some (42,.ptr 2 (0 + (x_66.1).toNat * 1)),[]⟩,⟨[19,18],0,0,none,[]⟩] [10] [[(2,⟨3,true,x_66.2.flatMap eW⟩),(3,⟨57,false,[rW β3 y_53.Pattern eW,iW y_53.Count]⟩)],[(2,⟨3,true,l2_71.flatMap eW⟩),(3,⟨57,false,[rW β3 y_53.Pattern eW,iW y_53.Count]⟩)]] [[],[],[0,1],[0,1,2],[],[],[5],[4,5,6],[0,1,2,3,4,5,6,7],[0,1,2,3,4,5,6,7,8],[0,1,2,3,4,5,6,7,8,9]] (by kernel_rfl) (by kernel_rfl) (BornL.ok (.o<| .o<| .o<| .o<| .o<| .o<| .o<| .o<| .o<| .o<| .b rfl rfl<| .b rfl rfl<| .b rfl rfl<| .b rfl rfl<| .b rfl rfl<| .b rfl rfl<| .b rfl rfl<| .b rfl rfl<| .b rfl rfl<| .b rfl rfl<| .n)) (BaseL.ok (.o rfl<| .o rfl<| .o rfl<| .o rfl<| .o rfl<| .o rfl<| .o rfl<| .o rfl<| .o rfl<| .o rfl<| .b<| .b<| .b<| .b<| .b<| .b<| .b<| .b<| .b<| .b<| .n)) rfl (by decide) (allLt rfl) (.read rfl (.c (.put (fun E hE => .move (lt1 rfl) (.tmp (hE.at (k := 0) rfl)))) (.n))<| .pure rfl (fun H => .put (fun E hE => .move (lt1 rfl) (.tmp (hE.at (k := 0) rfl))))<| .read rfl (.c (.put (fun E hE => .idxOwn (lt1 rfl) (.tmp (hE.at (k := 0) rfl)) (.tmp (hE.at (k := 1) rfl)) Try.underlying22 sz3 rfl hy_69)) (.n))<| .read rfl (.c (.put (fun E hE => .loadP (lt1 rfl) (.tmp (hE.at (k := 0) rfl)) one3 rfl (cell_at1 (encI_len .i64) hy_69) rfl)) (.n))<| .pure rfl (fun H => .put (fun E hE => .move (lt1 rfl) (.tmp (hE.at (k := 0) rfl))))<| .read rfl (.c (.put (fun E hE => .fieldP (lt1 rfl) (.tmp (hE.at (k := 0) rfl)) fld57_1)) (.n))<| .read rfl (.c (.put (fun E hE => .loadP (lt1 rfl) (.tmp (hE.at (k := 0) rfl)) one3 rfl rfl rfl)) (.n))<| .pure rfl (fun H => .put (fun E hE => .mul (lt1 rfl) (.tmp (hE.at (k := 0) rfl)) (.tmp (hE.at (k := 1) rfl))))<| .pure rfl (fun H => .put (fun E hE => .add (lt1 rfl) (.tmp (hE.at (k := 0) rfl)) (.tmp (hE.at (k := 1) rfl))))<| .read rfl (.c (.put (fun E hE => .idxOwn (lt1 rfl) (.tmp (hE.at (k := 0) rfl)) (.tmp (hE.at (k := 1) rfl)) Try.underlying22 sz3 rfl hy_70)) (.n))<| .turn rfl rfl rfl rfl rfl (.store (fun E hE => .storeP (.tmp (hE.at (k := 0) rfl)) (.tmp (hE.at (k := 1) rfl)) sz3 rfl (lt_at1 (encI_len .i64) hy_70) rfl (fun _ => rfl) (set_at1 (encI_len .i64) hl2_71 rfl)) rfl)<| .nil _) (fun E hE => .c (DInv.at hE (k := 0) rfl rfl rfl)<| .c (DInv.at hE (k := 1) rfl rfl rfl)<| .c (DInv.at hE (k := 4) rfl rfl rfl)<| .c (DInv.at hE (k := 5) rfl rfl rfl)<| .c (DInv.at hE (k := 6) rfl rfl rfl)<| .c (DInv.at hE (k := 7) rfl rfl rfl)<| .c (DInv.at hE (k := 8) rfl rfl rfl)<| .c (DInv.at hE (k := 9) rfl rfl rfl)<| .n _) rfl ?_
      refine AWP.vc (s' := ⟨[(6,.own 2 1 0 l2_71.length),(8,.ptr 3 0),(19,rW β3 a1 encR56),(20,iW (a1.length : Int)),(21,iW x_51.1),(26,rW β3 y_53.Pattern eW),(27,iW (y_53.Pattern.length : Int)),(28,iW x_66.1)],[(2,⟨3,true,l2_71.flatMap eW⟩),(3,⟨57,false,[rW β3 y_53.Pattern eW,iW y_53.Count]⟩)]⟩) (VC.sub (.c (lenC (Eq.symm (setLen hl2_71)) rfl)<| .c rfl<| .c rfl<| .c rfl<| .c rfl<| .c rfl<| .c rfl<| .c rfl<| .n _) (.of rfl)) ?_
      obtain ⟨t28_72,ht28_72,h⟩ := letS h
      refine AWP.region (.cons (.add (lt1 rfl) (.t rfl) (.const _ _ _))<| .cons (.move (lt1 rfl) (.t rfl))<| ARun.nil _ _ _) ?_
      exact endJ (t28_72,l2_71) h (by subst ht28_72; exact VC.sub (.of rfl) (.of rfl))
     ·have h := iteF hc h
      refine AWP.exit ?_
      exact endJ x_66.2 h (VC.sub (.of rfl) (.of rfl))
   ·have h := iteF hc h
    refine AWP.exit ?_
    exact endJ x_51.2 h (VC.sub (.of rfl) (.of rfl))
theorem c41 {β1 : Bool} {β2 : Bool} {β3 : Bool} (n : Nat) (a0 : R23) (a1 : (List R56)) {r : Bool} (h : m41 n a0 a1 = some r) : Spec Try.prog 41 [] [.agg [rW β1 a0.Lengths eW,rW β2 a0.Demand eW,iW a0.Stock,iW a0.Kerf],rW β3 a1 encR56] [] (bW r) [] := by
 refine Spec.of (fn := Try.f41) Try.func41 Try.ntmps41 rfl rfl (le1 rfl) (fun w0 Zs Zb T0 ι0 => ?_)
 unfold m41 at h
 refine AWP.seq ?_
 refine AWP.region (.cons (.box (t := 1) (n := 4) (lt1 rfl) (nm rfl) (.t rfl) (by first | exact ⟨rfl,rfl⟩ | rfl) rfl)<| .cons (.assign (lt1 rfl) (.const _ _ _))<| ARun.nil _ _ _) ?_
 refine AWP.vc (s' := ⟨[(1,rW β3 a1 encR56),(2,.ptr 1 0)],[(1,⟨32,false,[rW β1 a0.Lengths eW,rW β2 a0.Demand eW,iW a0.Stock,iW a0.Kerf]⟩)]⟩) (VC.sub (.of rfl) (.of rfl)) ?_
 refine AWP.seq ?_
 obtain ⟨y_1,hy_1,h⟩ := bindS h
 refine AWP.region (.cons (.loadPA (lt1 rfl) (.t rfl) agg32 rfl rfl rfl rfl)<| .cons (.move (lt1 rfl) (.t rfl))<| .cons (.call0 (bw := false) (lt1 rfl) (c33 (β1 := β1) (β2 := β2) (β3 := β3) n (R23.mk a0.Lengths a0.Demand a0.Stock a0.Kerf) a1 hy_1) (.cons (.t rfl) (.ren rfl) (.cons (.t rfl) (.ren rfl) (.nil))) rfl)<| .cons (.move (lt1 rfl) (.t rfl))<| .cons (.extract (lt1 rfl) (.t rfl) rfl)<| .cons (.extract (lt1 rfl) (.t rfl) rfl)<| .cons (.assign (lt1 rfl) (.t rfl))<| .cons (.assign (lt1 rfl) (.t rfl))<| ARun.nil _ _ _) ?_
 refine AWP.vc (s' := ⟨[(2,.ptr 1 0),(5,rW false y_1.1 eW),(6,iW y_1.2)],[(1,⟨32,false,[rW β1 a0.Lengths eW,rW β2 a0.Demand eW,iW a0.Stock,iW a0.Kerf]⟩)]⟩) (VC.sub (.of rfl) (.of rfl)) ?_
 refine AWP.seq ?_
 refine AWP.seq ?_
 refine AWP.region (.cons (.move (lt1 rfl) (.t rfl))<| .cons (.lenRd (lt1 rfl) (.t rfl) Try.underlying22)<| .cons (.move (lt1 rfl) (.const _ _ _))<| ARun.nil _ _ _) ?_
 refine AWP.vc (s' := ⟨[(2,.ptr 1 0),(6,iW y_1.2),(15,rW false y_1.1 eW),(16,iW (y_1.1.length : Int)),(17,iW (0 : Int))],[(1,⟨32,false,[rW β1 a0.Lengths eW,rW β2 a0.Demand eW,iW a0.Stock,iW a0.Kerf]⟩)]⟩) (VC.sub (.of rfl) (.of rfl)) ?_
 refine AWP.joinB' (S := fun p_11 : Unit => ⟨[(6,iW y_1.2)],[]⟩) h (fun p_11 h => ?_) (fun k_12 h => ?_)
 ·refine AWP.seq ?_
  refine AWP.region (.cons (.move (lt1 rfl) (.t rfl))<| .cons (.eql (lt1 rfl) (.t rfl) (.const _ _ _))<| .cons (.assign (lt1 rfl) (.t rfl))<| ARun.nil _ _ _) ?_
  refine AWP.ret ?_
  obtain rfl := Option.some.inj h
  refine retJ (Res.vc (s' := ⟨[(4,bW (decide (y_1.2 = (0 : Int))))],[]⟩) (VC.sub (.of rfl) (.n _)) ?_)
  refine Res.drop (H := []) rfl ?_
  exact Res.of rfl (.cons (.tmp rfl) (.nil)) rfl rfl
 ·refine AWP.vc (s' := ⟨[(2,.ptr 1 0),(6,iW y_1.2),(15,rW false y_1.1 eW),(16,iW (y_1.1.length : Int)),(17,iW (0 : Int))],[(1,⟨32,false,[rW β1 a0.Lengths eW,rW β2 a0.Demand eW,iW a0.Stock,iW a0.Kerf]⟩)]⟩) (VC.sub (.of rfl) (.of rfl)) ?_
  refine AWP.loopM (S := fun x_6 : Int => ⟨[(2,.ptr 1 0),(6,iW y_1.2),(15,rW false y_1.1 eW),(16,iW (y_1.1.length : Int)),(17,iW x_6)],[(1,⟨32,false,[rW β1 a0.Lengths eW,rW β2 a0.Demand eW,iW a0.Stock,iW a0.Kerf]⟩)]⟩) (x := (0 : Int)) (fun nx_7 x_6 h => ?_) h
  unfold m41_L1 at h
  refine AWP.seq ?_
  refine AWP.region (.cons (.lss (lt1 rfl) (.t rfl) (.t rfl))<| ARun.nil _ _ _) ?_
  refine AWP.vc (s' := ⟨[(2,.ptr 1 0),(6,iW y_1.2),(15,rW false y_1.1 eW),(16,iW (y_1.1.length : Int)),(17,iW x_6),(18,bW (decide (x_6 < (y_1.1.length : Int))))],[(1,⟨32,false,[rW β1 a0.Lengths eW,rW β2 a0.Demand eW,iW a0.Stock,iW a0.Kerf]⟩)]⟩) (VC.sub (.of rfl) (.of rfl)) ?_
  refine AWP.seq ?_
  refine AWP.cond (.t rfl) (fun hc => ?_) (fun hc => ?_)
  ·have h := iteT hc h
   refine AWP.skip ?_
   refine AWP.seq ?_
   refine AWP.block ?_
   refine AWP.seq ?_
   obtain ⟨y_8,hy_8,h⟩ := bindS h
   refine AWP.region (.cons (.move (lt1 rfl) (.t rfl))<| .cons (.indexRd (enc := eW) (lt1 rfl) (.t rfl) (.t rfl) Try.underlying22 sz3 (encI_len .i64) rfl hy_8)<| .cons (.loadR (v := iW y_8) (lt1 rfl) (.t rfl) one3 rfl)<| .cons (.assign (lt1 rfl) (.t rfl))<| .cons (.assign (lt1 rfl) (.t rfl))<| ARun.nil _ _ _) ?_
   refine AWP.vc (s' := ⟨[(2,.ptr 1 0),(6,iW y_1.2),(15,rW false y_1.1 eW),(16,iW (y_1.1.length : Int)),(17,iW x_6),(7,iW x_6),(8,iW y_8)],[(1,⟨32,false,[rW β1 a0.Lengths eW,rW β2 a0.Demand eW,iW a0.Stock,iW a0.Kerf]⟩)]⟩) (VC.sub (.of rfl) (.of rfl)) ?_
   refine AWP.seq ?_
   obtain ⟨y_9,hy_9,h⟩ := bindS h
   refine AWP.region (.cons (.move (lt1 rfl) (.t rfl))<| .cons (.fieldP (lt1 rfl) (.t rfl) fld32_1)<| .cons (.loadP (lt1 rfl) (.t rfl) one22 rfl rfl rfl)<| .cons (.move (lt1 rfl) (.t rfl))<| .cons (.indexRd (enc := eW) (lt1 rfl) (.t rfl) (.t rfl) Try.underlying22 sz3 (encI_len .i64) rfl hy_9)<| .cons (.loadR (v := iW y_9) (lt1 rfl) (.t rfl) one3 rfl)<| .cons (.lss (lt1 rfl) (.t rfl) (.t rfl))<| ARun.nil _ _ _) ?_
   refine AWP.vc (s' := ⟨[(2,.ptr 1 0),(6,iW y_1.2),(15,rW false y_1.1 eW),(16,iW (y_1.1.length : Int)),(17,iW x_6),(28,bW (decide (y_8 < y_9)))],[(1,⟨32,false,[rW β1 a0.Lengths eW,rW β2 a0.Demand eW,iW a0.Stock,iW a0.Kerf]⟩)]⟩) (VC.sub (.of rfl) (.of rfl)) ?_
   refine AWP.cond (.t rfl) (fun hc => ?_) (fun hc => ?_)
   ·have h := iteT hc h
    refine AWP.seq ?_
    refine AWP.region (.cons (.assign (lt1 rfl) (.const _ _ _))<| ARun.nil _ _ _) ?_
    refine AWP.ret ?_
    obtain rfl := Option.some.inj h
    refine retJ (Res.vc (s' := ⟨[(4,bW false)],[]⟩) (VC.sub (.of rfl) (.n _)) ?_)
    refine Res.drop (H := []) rfl ?_
    exact Res.of rfl (.cons (.tmp rfl) (.nil)) rfl rfl
   ·have h := iteF hc h
    refine AWP.skip ?_
    obtain ⟨t17_10,ht17_10,h⟩ := letS h
    refine AWP.region (.cons (.add (lt1 rfl) (.t rfl) (.const _ _ _))<| .cons (.move (lt1 rfl) (.t rfl))<| ARun.nil _ _ _) ?_
    exact endJ t17_10 h (by subst ht17_10; exact VC.sub (.of rfl) (.of rfl))
  ·have h := iteF hc h
   refine AWP.exit ?_
   exact endJ () h (VC.sub (.of rfl) (.n _))
theorem c60 {β1 : Bool} (n : Nat) (a0 : (List R56)) {r : Unit} (h : m60 n a0 = some r) : Spec Try.prog 60 [] [rW β1 a0 encR56] [] (.clo (.func 69) [] [.ptr 1 0]) [(1,⟨53,false,[rW β1 a0 encR56]⟩)] := by
 refine Spec.of (fn := Try.f60) Try.func60 Try.ntmps60 rfl rfl (le1 rfl) (fun w0 Zs Zb T0 ι0 => ?_)
 unfold m60 at h
 refine AWP.seq ?_
 refine AWP.region (.cons (.box (t := 1) (n := 1) (lt1 rfl) (nm rfl) (.t rfl) (by first | exact ⟨rfl,rfl⟩ | rfl) rfl)<| .cons (.assign (lt1 rfl) (.const _ _ _))<| ARun.nil _ _ _) ?_
 refine AWP.vc (s' := ⟨[(1,.ptr 1 0)],[(1,⟨53,false,[rW β1 a0 encR56]⟩)]⟩) (VC.sub (.of rfl) (.of rfl)) ?_
 refine AWP.seq ?_
 refine AWP.region (.cons (.makeFunc (lt1 rfl) (.nil) (.cons (.t rfl) (.nil)))<| .cons (.assign (lt1 rfl) (.t rfl))<| ARun.nil _ _ _) ?_
 refine AWP.ret ?_
 obtain rfl := Option.some.inj h
 refine retJ (Res.vc (s' := ⟨[(2,.clo (.func 69) [] [.ptr 1 0])],[(1,⟨53,false,[rW β1 a0 encR56]⟩)]⟩) (VC.sub (.of rfl) (.of rfl)) ?_)
 refine Res.sub (H := [(1,⟨53,false,[rW β1 a0 encR56]⟩)]) (.of rfl) ?_
 exact Res.of rfl (.cons (.tmp rfl) (.nil)) rfl rfl
theorem c70 {β1 : Bool} (n : Nat) (a0 : (List R56)) {r : Unit} (h : m70 n a0 = some r) : Spec Try.prog 70 [] [rW β1 a0 encR56] [] (.clo (.func 78) [] [.ptr 1 0]) [(1,⟨53,false,[rW β1 a0 encR56]⟩)] := by
 refine Spec.of (fn := Try.f70) Try.func70 Try.ntmps70 rfl rfl (le1 rfl) (fun w0 Zs Zb T0 ι0 => ?_)
 unfold m70 at h
 refine AWP.seq ?_
 refine AWP.region (.cons (.box (t := 1) (n := 1) (lt1 rfl) (nm rfl) (.t rfl) (by first | exact ⟨rfl,rfl⟩ | rfl) rfl)<| .cons (.assign (lt1 rfl) (.const _ _ _))<| ARun.nil _ _ _) ?_
 refine AWP.vc (s' := ⟨[(1,.ptr 1 0)],[(1,⟨53,false,[rW β1 a0 encR56]⟩)]⟩) (VC.sub (.of rfl) (.of rfl)) ?_
 refine AWP.seq ?_
 refine AWP.region (.cons (.makeFunc (lt1 rfl) (.nil) (.cons (.t rfl) (.nil)))<| .cons (.assign (lt1 rfl) (.t rfl))<| ARun.nil _ _ _) ?_
 refine AWP.ret ?_
 obtain rfl := Option.some.inj h
 refine retJ (Res.vc (s' := ⟨[(2,.clo (.func 78) [] [.ptr 1 0])],[(1,⟨53,false,[rW β1 a0 encR56]⟩)]⟩) (VC.sub (.of rfl) (.of rfl)) ?_)
 refine Res.sub (H := [(1,⟨53,false,[rW β1 a0 encR56]⟩)]) (.of rfl) ?_
 exact Res.of rfl (.cons (.tmp rfl) (.nil)) rfl rfl
theorem i78 {β1 : Bool} (n : Nat) (a1_b0 : (List R56)) {r : (List (Int × R56))} (h : m78 n a1_b0 = some r) : ItSpec Try.prog 78 [.ptr 1 0] [(1,⟨53,false,[rW β1 a1_b0 encR56]⟩)] (fun e_ : (Int × R56) => [iW e_.1,.agg [rW β1 e_.2.Pattern eW,iW e_.2.Count]]) r := by
 refine ItSpec.of (fn := Try.f78) Try.func78 Try.ntmps78 rfl rfl (le1 rfl) (fun tm w => ⟨_,results_none rfl tm _ w⟩) (fun l ι0 Zs Zb J Jx hJ hJx hR => ?_)
 unfold m78 at h
 refine AWPF.seq ?_
 obtain ⟨t3_1,ht3_1,h⟩ := letS h
 refine AWPF.of fun d_ => AWP.region (.cons (.loadP (lt1 rfl) (.t rfl) one53 rfl rfl rfl)<| .cons (.lenRd (lt1 rfl) (.t rfl) Try.underlying53)<| .cons (.sub (lt1 rfl) (.t rfl) (.const _ _ _))<| .cons (.assign (lt1 rfl) (.t rfl))<| ARun.nil _ _ _) ?_
 refine AWPF.vc (s' := ⟨[(0,.sc (.func (.yield l) #[] #[])),(1,.ptr 1 0),(3,iW t3_1)],[(1,⟨53,false,[rW β1 a1_b0 encR56]⟩)]⟩) (fun d_ => by subst ht3_1; exact VC.sub (.of rfl) (.of rfl)) ?_
 refine AWPF.joinB' (S := fun p_21 : Unit => ⟨[],[(1,⟨53,false,[rW β1 a1_b0 encR56]⟩)]⟩) h (fun p_21 r h => ?_) (fun k_22 h => ?_)
 ·obtain rfl := Option.some.inj h
  exact ⟨.inr rfl,.inl rfl⟩
 ·refine AWPF.vc (s' := ⟨[(0,.sc (.func (.yield l) #[] #[])),(1,.ptr 1 0),(3,iW t3_1)],[(1,⟨53,false,[rW β1 a1_b0 encR56]⟩)]⟩) (fun d_ => VC.sub (.of rfl) (.of rfl)) ?_
  refine AWPF.loopM (S := fun x_14 : Int => ⟨[(0,.sc (.func (.yield l) #[] #[])),(1,.ptr 1 0),(3,iW x_14)],[(1,⟨53,false,[rW β1 a1_b0 encR56]⟩)]⟩) (x := t3_1) (fun nx_15 x_14 r h => ?_) h
  unfold m78_L1 at h
  refine AWPF.seq ?_
  refine AWPF.seq ?_
  refine AWPF.of fun d_ => AWP.region (.cons (.move (lt1 rfl) (.t rfl))<| .cons (.geq (lt1 rfl) (.t rfl) (.const _ _ _))<| ARun.nil _ _ _) ?_
  refine AWPF.vc (s' := ⟨[(0,.sc (.func (.yield l) #[] #[])),(1,.ptr 1 0),(3,iW x_14),(8,bW (decide ((0 : Int) ≤ x_14)))],[(1,⟨53,false,[rW β1 a1_b0 encR56]⟩)]⟩) (fun d_ => VC.sub (.of rfl) (.of rfl)) ?_
  refine AWPF.cond (fun d_ => .tmp rfl) (fun hc => ?_) (fun hc => ?_)
  ·have h := iteT hc h
   refine AWPF.skip ?_
   refine AWPF.seq ?_
   refine AWPF.block ?_
   refine AWPF.seq ?_
   obtain ⟨y_16,hy_16,h⟩ := bindS h
   obtain ⟨rest_18,hy_17⟩ := yldS h
   refine AWPF.regionY (.cons (fun d_ => .move (lt1 rfl) (.t rfl))<| .cons (fun d_ => .move (lt1 rfl) (.t rfl))<| .cons (fun d_ => .loadP (lt1 rfl) (.t rfl) one53 rfl rfl rfl)<| .cons (fun d_ => .move (lt1 rfl) (.t rfl))<| .cons (fun d_ => .indexRd (enc := encR56) (lt1 rfl) (.t rfl) (.t rfl) Try.underlying53 sz57 encR56_len rfl hy_16)<| .cons (fun d_ => .loadRA (out := [rW β1 y_16.Pattern eW,iW y_16.Count]) (lt1 rfl) (.t rfl) agg57 (Nat.le_of_eq (Eq.symm (encR56_len _))) rfl)<| .y0 hJ hJx hR hy_17 (lt1 rfl) (fun d_ => .tmp rfl) (fun d_ => .cons (.t rfl) rfl (.cons (.t rfl) rfl (.nil))) (fun b_19 d_ =>  .cons (.not (lt1 rfl) (.t rfl))<| ARun.nil _ _ _)) (fun b_19 => ?_)
   refine AWPF.vc (s' := ⟨[(0,.sc (.func (.yield l) #[] #[])),(1,.ptr 1 0),(3,iW x_14),(18,bW (!b_19))],[(1,⟨53,false,[rW β1 a1_b0 encR56]⟩)]⟩) (fun d_ => VC.sub (.of rfl) (.of rfl)) ?_
   refine AWPF.condY hy_17 (fun d_ => .tmp rfl) (fun g_ hg_ => ?_) (fun h => ?_)
   ·refine AWPF.ret ?_
    exact ⟨.inl rfl,hg_⟩
   ·refine AWPF.skip ?_
    obtain ⟨t3_20,ht3_20,h⟩ := letS h
    refine AWPF.of fun d_ => AWP.region (.cons (.move (lt1 rfl) (.t rfl))<| .cons (.sub (lt1 rfl) (.t rfl) (.const _ _ _))<| .cons (.assign (lt1 rfl) (.t rfl))<| ARun.nil _ _ _) ?_
    exact endJF t3_20 h (fun d_ => by subst ht3_20; exact VC.sub (.of rfl) (.of rfl))
  ·have h := iteF hc h
   refine AWPF.exit ?_
   exact endJF () h (fun d_ => VC.sub (.n _) (.of rfl))
theorem c53o {β1 : Bool} (n : Nat) (a0 : (List Int)) {r : (List Int)} (h : m53o n a0 = some r) : Spec Try.prog 53 [] [rW β1 a0 eW] [] (.own 1 1 0 r.length) [(1,⟨3,true,r.flatMap eW⟩)] := by
 refine Spec.of (fn := Try.f53) Try.func53 Try.ntmps53 rfl rfl (le1 rfl) (fun w0 Zs Zb T0 ι0 => ?_)
 unfold m53o at h
 refine AWP.seq ?_
 refine AWP.region (.cons (.assign (lt1 rfl) (.const _ _ _))<| ARun.nil _ _ _) ?_
 refine AWP.vc (s' := ⟨[(0,rW β1 a0 eW)],[]⟩) (VC.sub (.of rfl) (.n _)) ?_
 refine AWP.seq ?_
 refine AWP.seq ?_
 refine AWP.regionE (S := fun q_1 => ⟨[(0,rW β1 a0 eW),(4,bW (decide (a0.length = 0 ∧ q_1 = 0)))],[]⟩) (.cons (.move (lt1 rfl) (.t rfl))<| .consE (AStepE.eqNil0 (lt1 rfl) (.t rfl) Try.underlying22)<| fun q_1 => ARunE.nilV q_1 (VC.sub (.of rfl) (.n _))) (fun q_1 => ?_)
 refine AWP.cond (.t rfl) (fun hc => ?_) (fun hc => ?_)
 ·have h := cloneNil hc h
  refine AWP.seq ?_
  refine AWP.region (.cons (.assign (lt1 rfl) (.const _ _ _))<| ARun.nil _ _ _) ?_
  refine AWP.ret ?_
  obtain rfl := Option.some.inj h
  refine retJ (Res.vc (s' := ⟨[(2,.own 1 1 0 ([] : List Int).length)],[(1,⟨3,true,([] : List Int).flatMap eW⟩)]⟩) (VC.trans (VC.nilOwn (d := 2) (t := 1) (sz := 1) (E := 3) rfl (nm rfl)) (VC.sub (.of rfl) (.of rfl))) ?_)
  refine Res.sub (H := [(1,⟨3,true,([] : List Int).flatMap eW⟩)]) (.of rfl) ?_
  exact Res.of rfl (.cons (.tmp rfl) (.nil)) rfl rfl
 ·refine AWP.skip ?_
  refine AWP.seq ?_
  obtain ⟨l1_2,hl1_2,h⟩ := bindS h
  refine AWP.region (.cons (.buildSlice (t := 1) (out := ([] : List Int).flatMap eW) (lt1 rfl) (nm rfl) (.nil) Try.underlying22 zero3 el3 (by decide) (by decide) rfl (still_all (encI_still .i64) _))<| .cons (.move (lt1 rfl) (.t rfl))<| .cons (.app (enc := eW) (lt1 rfl) (nm rfl) (.t rfl) (Src.rd (.t rfl) (flatMap_length (encI_len .i64) _) (one_all (encI_one .i64) _) (.inr (scal_all (encI_scal .i64) _))) Try.underlying22 ⟨_,Try.underlying22,by intro k hk; cases hk⟩ el3 rfl (encI_len .i64) rfl rfl (by decide) hl1_2)<| .cons (.assign (lt1 rfl) (.t rfl))<| ARun.nil _ _ _) ?_
  refine AWP.ret ?_
  obtain rfl := Option.some.inj h
  refine retJ (Res.vc (s' := ⟨[(2,.own 1 1 0 l1_2.length)],[(1,⟨3,true,l1_2.flatMap eW⟩)]⟩) (VC.sub (.of rfl) (.of rfl)) ?_)
  refine Res.sub (H := [(1,⟨3,true,l1_2.flatMap eW⟩)]) (.of rfl) ?_
  exact Res.of rfl (.cons (.tmp rfl) (.nil)) rfl rfl
theorem i69 {β1 : Bool} (n : Nat) (a1_b0 : (List R56)) {r : (List (List Int))} (h : m69 n a1_b0 = some r) : ItSpecG Try.prog 69 [.ptr 1 0] [(1,⟨53,false,[rW β1 a1_b0 encR56]⟩)] (fun e_ : (List Int) => [.own 1 1 0 e_.length]) (fun e_ : (List Int) => [(1,⟨3,true,e_.flatMap eW⟩)]) r := by
 refine ItSpecG.ofR (fn := Try.f69) Try.func69 Try.ntmps69 rfl rfl (le1 rfl) (fun tm w => ⟨_,results_none rfl tm _ w⟩) (fun l ι0 Zs Zb J Jx hJ hJx hR => ?_)
 unfold m69 at h
 refine AWPF.seq ?_
 refine AWPF.of fun d_ => AWP.region (.cons (.box (t := 2) (n := 1) (lt1 rfl) (nm rfl) (.t rfl) (by first | exact ⟨rfl,rfl⟩ | rfl) rfl)<| ARun.nil _ _ _) ?_
 refine AWPF.vc (s' := ⟨[(1,.ptr 1 0),(2,.ptr 2 0)],[(2,⟨96,false,[.sc (.func (.yield l) #[] #[])]⟩),(1,⟨53,false,[rW β1 a1_b0 encR56]⟩)]⟩) (fun d_ => VC.sub (.of rfl) (.of rfl)) ?_
 refine AWPF.seq ?_
 obtain ⟨y_1,hy_1,h⟩ := bindS h
 refine AWPF.of fun d_ => AWP.region (.cons (.loadP (lt1 rfl) (.t rfl) one53 rfl rfl rfl)<| .cons (.call (σ := fun _ => 3) (bw := false) (lt1 rfl) (c70 (β1 := β1) n a1_b0 hy_1) (.cons (.t rfl) (.ren rfl) (.nil)) (CallOk.mk' (.n) rfl))<| ARun.nil _ _ _) ?_
 refine AWPF.vc (s' := ⟨[(2,.ptr 2 0),(6,.clo (.func 78) [] [.ptr 3 0])],[(3,⟨53,false,[rW β1 a1_b0 encR56]⟩),(2,⟨96,false,[.sc (.func (.yield l) #[] #[])]⟩),(1,⟨53,false,[rW β1 a1_b0 encR56]⟩)]⟩) (fun d_ => VC.sub (.of rfl) (.of rfl)) ?_
 refine AWPF.block ?_
 obtain ⟨y_2,hy_2,h⟩ := bindS h
 refine AWPF.rangeI' hJ hJx (σ := fun _ => 3) (Hp := fun x_18 : Unit => [(2,⟨96,false,[.sc (.func (.yield l) #[] #[])]⟩)]) (Hb := fun (e_3 : (Int × R56)) (x_18 : Unit) => [(4,⟨57,false,[rW β1 e_3.2.Pattern eW,iW e_3.2.Count]⟩),(2,⟨96,false,[.sc (.func (.yield l) #[] #[])]⟩)]) (env := [(2,.ptr 2 0)]) (x0 := ()) (KB := [2]) (envb := fun (e_3 : (Int × R56)) (x_18 : Unit) => [(2,.ptr 2 0),(4,.ptr 4 0)]) (M := fun e_ _ g_ => e_ = .ret ∧ g_ = none) (i78 (β1 := β1) n a1_b0 hy_2) (fun d_ => .tmp rfl) (fun d_ => .cons (.ren rfl) (.nil)) (.c rfl (.n)) rfl (.of rfl) (.of rfl) rfl h (fun l_ ιs_ => ⟨by decide,fun _ => rfl,?_,?_⟩) (fun p_33 r h => ?_) (fun e_ x_ g_ h => ?_)
 ·intro w0 Zs Zb T0 ι0 x_18 e_3
  refine AWP.vc (s' := ⟨[(2,.ptr 2 0),(7,iW e_3.1),(8,.agg [rW β1 e_3.2.Pattern eW,iW e_3.2.Count])],[(2,⟨96,false,[.sc (.func (.yield l) #[] #[])]⟩)]⟩) (VC.sub (.of rfl) (.of rfl)) ?_
  refine AWP.region (.cons (.alloc (t := 4) (k := ⟨57,false,[.sc (.slice none 0 0),iW (0 : Int)]⟩) (lt1 rfl) (nm rfl) zero57 rfl rfl)<| .cons (.storePA (.t rfl) (.t rfl) sz57 rfl rfl (le1 rfl) (one_lit rfl) (by intro h; cases h) rfl)<| ARun.nil _ _ _) ?_
  exact ⟨rfl,VC.sub (.of rfl) (.of rfl)⟩
 ·intro c_ hc_ nx_19 x_18 e_3 r h
  unfold m69_R2 at h
  refine AWPF.block ?_
  refine AWPF.seq ?_
  refine AWPF.of fun d_ => AWP.region (.cons (.fieldP (lt1 rfl) (.t rfl) fld57_1)<| .cons (.loadP (lt1 rfl) (.t rfl) one3 rfl rfl rfl)<| .cons (.move (lt1 rfl) (.const _ _ _))<| ARun.nil _ _ _) ?_
  refine AWPF.vc (s' := ⟨[(2,.ptr 2 0),(4,.ptr 4 0),(10,iW e_3.2.Count),(11,iW (0 : Int))],[(4,⟨57,false,[rW β1 e_3.2.Pattern eW,iW e_3.2.Count]⟩),(2,⟨96,false,[.sc (.func (.yield l) #[] #[])]⟩)]⟩) (fun d_ => VC.sub (.of rfl) (.of rfl)) ?_
  refine AWPF.joinB' (S := fun p_31 : Unit => ⟨[(2,.ptr 2 0)],[(2,⟨96,false,[.sc (.func (.yield l) #[] #[])]⟩)]⟩) h (fun p_31 r h => ?_) (fun k_32 h => ?_)
  ·exact ⟨(),fun d_ => VC.sub (.n _) (.of rfl),.inl ⟨rfl,_,rfl,h⟩⟩
  ·refine AWPF.vc (s' := ⟨[(2,.ptr 2 0),(4,.ptr 4 0),(10,iW e_3.2.Count),(11,iW (0 : Int))],[(2,⟨96,false,[.sc (.func (.yield l) #[] #[])]⟩),(4,⟨57,false,[rW β1 e_3.2.Pattern eW,iW e_3.2.Count]⟩)]⟩) (fun d_ => VC.sub (.of rfl) (.of rfl)) ?_
   refine AWPF.loopM (S := fun x_25 : Int => ⟨[(2,.ptr 2 0),(4,.ptr 4 0),(10,iW e_3.2.Count),(11,iW x_25)],[(2,⟨96,false,[.sc (.func (.yield l) #[] #[])]⟩),(4,⟨57,false,[rW β1 e_3.2.Pattern eW,iW e_3.2.Count]⟩)]⟩) (x := (0 : Int)) (fun nx_26 x_25 r h => ?_) h
   unfold m69_L3 at h
   refine AWPF.seq ?_
   refine AWPF.of fun d_ => AWP.region (.cons (.lss (lt1 rfl) (.t rfl) (.t rfl))<| ARun.nil _ _ _) ?_
   refine AWPF.vc (s' := ⟨[(2,.ptr 2 0),(4,.ptr 4 0),(10,iW e_3.2.Count),(11,iW x_25),(12,bW (decide (x_25 < e_3.2.Count)))],[(2,⟨96,false,[.sc (.func (.yield l) #[] #[])]⟩),(4,⟨57,false,[rW β1 e_3.2.Pattern eW,iW e_3.2.Count]⟩)]⟩) (fun d_ => VC.sub (.of rfl) (.of rfl)) ?_
   refine AWPF.seq ?_
   refine AWPF.cond (fun d_ => .tmp rfl) (fun hc => ?_) (fun hc => ?_)
   ·have h := iteT hc h
    refine AWPF.skip ?_
    refine AWPF.seq ?_
    refine AWPF.block ?_
    refine AWPF.seq ?_
    obtain ⟨y_27,hy_27,h⟩ := bindS h
    obtain ⟨q_28,hq_28,rfl⟩ := yldMF h
    have h := hq_28
    refine AWPF.drawE (b := 4) mixed (Rr := [[],[],[1],[1,2],[0,1,2,3],[0,1,2,3,4]]) (by kernel_rfl) (fun d_ => AWP.drawAny (s' := ⟨[(2,.ptr 2 0),(4,.ptr 4 0),(10,iW e_3.2.Count),(11,iW x_25),(13,.sc (.func (.yield l) #[] #[])),(16,.own 5 1 0 y_27.length)],[(5,⟨3,true,y_27.flatMap eW⟩),(2,⟨96,false,[.sc (.func (.yield l) #[] #[])]⟩),(4,⟨57,false,[rW β1 e_3.2.Pattern eW,iW e_3.2.Count]⟩)]⟩) [⟨2,.ptr 2 0,none,[]⟩,⟨4,.ptr 4 0,none,[]⟩,⟨10,iW e_3.2.Count,none,[]⟩,⟨11,iW x_25,none,[]⟩,⟨12,bW (decide (x_25 < e_3.2.Count)),none,[]⟩,⟨13,.sc (.func (.yield l) #[] #[]),some 0,[]⟩,⟨14,.ptr 4 (0 + 0),some 1,[]⟩,⟨15,rW β1 e_3.2.Pattern eW,some 2,[]⟩,⟨16,.own 5 1 0 y_27.length,some 3,[]⟩] [⟨[0],0,1,some (13,.sc (.func (.yield l) #[] #[])),[]⟩,⟨[1],0,0,some (14,.ptr 4 (0 + 0)),[]⟩,⟨[6],0,0,some (15,rW β1 e_3.2.Pattern eW),[]⟩,⟨[7],0,0,some (16,.own 5 1 0 y_27.length),[5]⟩] [3] [[(2,⟨96,false,[.sc (.func (.yield l) #[] #[])]⟩),(4,⟨57,false,[rW β1 e_3.2.Pattern eW,iW e_3.2.Count]⟩)],[(5,⟨3,true,y_27.flatMap eW⟩),(2,⟨96,false,[.sc (.func (.yield l) #[] #[])]⟩),(4,⟨57,false,[rW β1 e_3.2.Pattern eW,iW e_3.2.Count]⟩)]] [[],[],[1],[1,2]] (by kernel_rfl) (by kernel_rfl) (BornL.ok (.o<| .o<| .o<| .o<| .o<| .b rfl rfl<| .b rfl rfl<| .b rfl rfl<| .b rfl rfl<| .n)) (BaseL.ok (.o rfl<| .o rfl<| .o rfl<| .o rfl<| .o rfl<| .b<| .b<| .b<| .b<| .n)) rfl (by decide) (allLt rfl) (.read rfl (.c (.put (fun E hE => .loadP (lt1 rfl) (.tmp (hE.at (k := 0) rfl)) one96 rfl rfl rfl)) (.c (.put (fun E hE => .loadP (lt1 rfl) (.tmp (hE.at (k := 0) rfl)) one96 rfl rfl rfl)) (.n)))<| .read rfl (.c (.put (fun E hE => .fieldP (lt1 rfl) (.tmp (hE.at (k := 0) rfl)) fld57_0)) (.n))<| .read rfl (.c (.put (fun E hE => .loadP (lt1 rfl) (.tmp (hE.at (k := 0) rfl)) one22 rfl rfl rfl)) (.n))<| .turn rfl rfl rfl rfl rfl (.called (fun E hE => AStep.call (σ := fun _ => 5) (bw := false) (lt1 rfl) (c53o (β1 := β1) n e_3.2.Pattern hy_27) (.cons (.tmp (hE.at (k := 0) rfl)) (.ren rfl) (.nil)) (CallOk.mk' (.n) rfl)) rfl rfl rfl)<| .nil _) (fun E hE => .c (DInv.at hE (k := 0) rfl rfl rfl)<| .c (DInv.at hE (k := 1) rfl rfl rfl)<| .c (DInv.at hE (k := 2) rfl rfl rfl)<| .c (DInv.at hE (k := 3) rfl rfl rfl)<| .c (DInv.at hE (k := 5) rfl rfl rfl)<| .c (DInv.at hE (k := 8) rfl rfl rfl)<| .n _) rfl ⟨rfl,rfl⟩) (.i0 hc_ hJ hJx hR ⟨[(2,.ptr 2 0),(4,.ptr 4 0),(10,iW e_3.2.Count),(11,iW x_25),(13,.sc (.func (.yield l) #[] #[]))],[(2,⟨96,false,[.sc (.func (.yield l) #[] #[])]⟩),(4,⟨57,false,[rW β1 e_3.2.Pattern eW,iW e_3.2.Count]⟩)]⟩ 5 (lt1 rfl) (fun d_ => .tmp rfl) (fun d_ => .cons (.t rfl) .nil) rfl rfl (.of rfl) (.of rfl) rfl (fun b_29 d_ =>  .cons (.not (lt1 rfl) (.t rfl))<| ARun.nil _ _ _)) ?_ (fun he_ => ?_)
    ·refine AWPF.vc (s' := ⟨[(2,.ptr 2 0),(4,.ptr 4 0),(10,iW e_3.2.Count),(11,iW x_25),(18,bW false)],[(2,⟨96,false,[.sc (.func (.yield l) #[] #[])]⟩),(4,⟨57,false,[rW β1 e_3.2.Pattern eW,iW e_3.2.Count]⟩)]⟩) (fun d_ => VC.sub (.of rfl) (.of rfl)) ?_
     refine AWPF.cond (fun d_ => .tmp rfl) (fun hc => by cases hc) (fun _ => ?_)
     refine AWPF.skip ?_
     obtain ⟨t11_30,ht11_30,h⟩ := letS h
     refine AWPF.of fun d_ => AWP.region (.cons (.add (lt1 rfl) (.t rfl) (.const _ _ _))<| .cons (.move (lt1 rfl) (.t rfl))<| ARun.nil _ _ _) ?_
     exact endJF t11_30 h (fun d_ => by subst ht11_30; exact VC.sub (.of rfl) (.of rfl))
    ·refine AWPF.vc (s' := ⟨[(2,.ptr 2 0),(4,.ptr 4 0),(10,iW e_3.2.Count),(11,iW x_25),(18,bW true)],[(2,⟨96,false,[.sc (.func (.yield l) #[] #[])]⟩),(4,⟨57,false,[rW β1 e_3.2.Pattern eW,iW e_3.2.Count]⟩)]⟩) (fun d_ => VC.sub (.of rfl) (.of rfl)) ?_
     refine AWPF.cond (fun d_ => .tmp rfl) (fun _ => ?_) (fun hc => by cases hc)
     refine AWPF.ret ?_
     exact ⟨(),fun d_ => VC.sub (.n _) (.of rfl),.inr ⟨.inl rfl,rfl,rfl⟩⟩
   ·have h := iteF hc h
    refine AWPF.exit ?_
    exact endJF () h (fun d_ => VC.sub (.of rfl) (.of rfl))
 ·obtain rfl := Option.some.inj h
  exact ⟨.inr rfl,.inl rfl⟩
 ·obtain ⟨rfl,rfl⟩ := h
  exact ⟨.inl rfl,.inr rfl⟩
theorem c62 (n : Nat) (a0 : Int) {r : Bool} (h : m62 n a0 = some r) : Spec Try.prog 62 [] [iW a0] [] (bW r) [] := by
 refine Spec.of (fn := Try.f62) Try.func62 Try.ntmps62 rfl rfl (le1 rfl) (fun w0 Zs Zb T0 ι0 => ?_)
 unfold m62 at h
 refine AWP.seq ?_
 refine AWP.region (.cons (.assign (lt1 rfl) (.const _ _ _))<| ARun.nil _ _ _) ?_
 refine AWP.vc (s' := ⟨[(0,iW a0)],[]⟩) (VC.sub (.of rfl) (.n _)) ?_
 refine AWP.seq ?_
 refine AWP.region (.cons (.move (lt1 rfl) (.t rfl))<| .cons (.gtr (lt1 rfl) (.t rfl) (.const _ _ _))<| .cons (.assign (lt1 rfl) (.t rfl))<| ARun.nil _ _ _) ?_
 refine AWP.ret ?_
 obtain rfl := Option.some.inj h
 refine retJ (Res.vc (s' := ⟨[(2,bW (decide ((0 : Int) < a0)))],[]⟩) (VC.sub (.of rfl) (.n _)) ?_)
 refine Res.drop (H := []) rfl ?_
 exact Res.of rfl (.cons (.tmp rfl) (.nil)) rfl rfl
theorem c71x1 {β1 : Bool} (n : Nat) (a0 : (List Int)) {r : Int} (h : m71x1 n a0 = some r) : Spec Try.prog 71 [] [rW β1 a0 eW,.clo (.func 62) [] []] [] (iW r) [] := by
 refine Spec.of (fn := Try.f71) Try.func71 Try.ntmps71 rfl rfl (le1 rfl) (fun w0 Zs Zb T0 ι0 => ?_)
 unfold m71x1 at h
 refine AWP.seq ?_
 refine AWP.region (.cons (.assign (lt1 rfl) (.const _ _ _))<| ARun.nil _ _ _) ?_
 refine AWP.vc (s' := ⟨[(0,rW β1 a0 eW),(1,.clo (.func 62) [] [])],[]⟩) (VC.sub (.of rfl) (.n _)) ?_
 refine AWP.seq ?_
 refine AWP.seq ?_
 refine AWP.region (.cons (.move (lt1 rfl) (.t rfl))<| .cons (.lenRd (lt1 rfl) (.t rfl) Try.underlying22)<| .cons (.move (lt1 rfl) (.const _ _ _))<| ARun.nil _ _ _) ?_
 refine AWP.vc (s' := ⟨[(0,rW β1 a0 eW),(1,.clo (.func 62) [] []),(7,iW (a0.length : Int)),(8,iW (0 : Int))],[]⟩) (VC.sub (.of rfl) (.n _)) ?_
 refine AWP.joinB' (S := fun p_10 : Unit => ⟨[],[]⟩) h (fun p_10 h => ?_) (fun k_11 h => ?_)
 ·refine AWP.seq ?_
  refine AWP.region (.cons (.assign (lt1 rfl) (.const _ _ _))<| ARun.nil _ _ _) ?_
  refine AWP.ret ?_
  obtain rfl := Option.some.inj h
  refine retJ (Res.vc (s' := ⟨[(4,iW (-1 : Int))],[]⟩) (VC.sub (.of rfl) (.n _)) ?_)
  refine Res.drop (H := []) rfl ?_
  exact Res.of rfl (.cons (.tmp rfl) (.nil)) rfl rfl
 ·refine AWP.vc (s' := ⟨[(0,rW β1 a0 eW),(1,.clo (.func 62) [] []),(7,iW (a0.length : Int)),(8,iW (0 : Int))],[]⟩) (VC.sub (.of rfl) (.n _)) ?_
  refine AWP.loopM (S := fun x_5 : Int => ⟨[(0,rW β1 a0 eW),(1,.clo (.func 62) [] []),(7,iW (a0.length : Int)),(8,iW x_5)],[]⟩) (x := (0 : Int)) (fun nx_6 x_5 h => ?_) h
  unfold m71x1_L1 at h
  refine AWP.seq ?_
  refine AWP.region (.cons (.lss (lt1 rfl) (.t rfl) (.t rfl))<| ARun.nil _ _ _) ?_
  refine AWP.vc (s' := ⟨[(0,rW β1 a0 eW),(1,.clo (.func 62) [] []),(7,iW (a0.length : Int)),(8,iW x_5),(9,bW (decide (x_5 < (a0.length : Int))))],[]⟩) (VC.sub (.of rfl) (.n _)) ?_
  refine AWP.seq ?_
  refine AWP.cond (.t rfl) (fun hc => ?_) (fun hc => ?_)
  ·have h := iteT hc h
   refine AWP.skip ?_
   refine AWP.seq ?_
   refine AWP.block ?_
   refine AWP.seq ?_
   refine AWP.region (.cons (.move (lt1 rfl) (.t rfl))<| .cons (.assign (lt1 rfl) (.t rfl))<| ARun.nil _ _ _) ?_
   refine AWP.vc (s' := ⟨[(0,rW β1 a0 eW),(1,.clo (.func 62) [] []),(7,iW (a0.length : Int)),(8,iW x_5),(5,iW x_5)],[]⟩) (VC.sub (.of rfl) (.n _)) ?_
   refine AWP.seq ?_
   obtain ⟨y_7,hy_7,h⟩ := bindS h
   obtain ⟨y_8,hy_8,h⟩ := bindS h
   refine AWP.region (.cons (.move (lt1 rfl) (.t rfl))<| .cons (.move (lt1 rfl) (.t rfl))<| .cons (.move (lt1 rfl) (.t rfl))<| .cons (.indexRd (enc := eW) (lt1 rfl) (.t rfl) (.t rfl) Try.underlying22 sz3 (encI_len .i64) rfl hy_7)<| .cons (.loadR (v := iW y_7) (lt1 rfl) (.t rfl) one3 rfl)<| .cons (.keep (bw := false) (AStep.callV (us' := []) (avs := [iW y_7]) (cs' := []) (σ := sgT []) (bw := false) (lt1 rfl) (.t rfl) (c62 n y_7 hy_8) (.nil) (.cons (.t rfl) (.ren rfl) (.nil)) (.nil) (CallOk.mk' (.n) rfl) (fun _ h => by cases h)) (CallOk.mk' (.n) rfl) rfl rfl)<| ARun.nil _ _ _) ?_
   refine AWP.vc (s' := ⟨[(0,rW β1 a0 eW),(1,.clo (.func 62) [] []),(7,iW (a0.length : Int)),(8,iW x_5),(5,iW x_5),(16,bW y_8)],[]⟩) (VC.sub (.of rfl) (.n _)) ?_
   refine AWP.cond (.t rfl) (fun hc => ?_) (fun hc => ?_)
   ·have h := iteT hc h
    refine AWP.seq ?_
    refine AWP.region (.cons (.move (lt1 rfl) (.t rfl))<| .cons (.assign (lt1 rfl) (.t rfl))<| ARun.nil _ _ _) ?_
    refine AWP.ret ?_
    obtain rfl := Option.some.inj h
    refine retJ (Res.vc (s' := ⟨[(4,iW x_5)],[]⟩) (VC.sub (.of rfl) (.n _)) ?_)
    refine Res.drop (H := []) rfl ?_
    exact Res.of rfl (.cons (.tmp rfl) (.nil)) rfl rfl
   ·have h := iteF hc h
    refine AWP.skip ?_
    obtain ⟨t8_9,ht8_9,h⟩ := letS h
    refine AWP.region (.cons (.add (lt1 rfl) (.t rfl) (.const _ _ _))<| .cons (.move (lt1 rfl) (.t rfl))<| ARun.nil _ _ _) ?_
    exact endJ t8_9 h (by subst ht8_9; exact VC.sub (.of rfl) (.n _))
  ·have h := iteF hc h
   refine AWP.exit ?_
   exact endJ () h (VC.sub (.n _) (.n _))
theorem c61x1 {β1 : Bool} (n : Nat) (a0 : (List Int)) {r : Bool} (h : m61x1 n a0 = some r) : Spec Try.prog 61 [] [rW β1 a0 eW,.clo (.func 62) [] []] [] (bW r) [] := by
 refine Spec.of (fn := Try.f61) Try.func61 Try.ntmps61 rfl rfl (le1 rfl) (fun w0 Zs Zb T0 ι0 => ?_)
 unfold m61x1 at h
 refine AWP.seq ?_
 refine AWP.region (.cons (.assign (lt1 rfl) (.const _ _ _))<| ARun.nil _ _ _) ?_
 refine AWP.vc (s' := ⟨[(0,rW β1 a0 eW),(1,.clo (.func 62) [] [])],[]⟩) (VC.sub (.of rfl) (.n _)) ?_
 refine AWP.seq ?_
 obtain ⟨y_1,hy_1,h⟩ := bindS h
 refine AWP.region (.cons (.move (lt1 rfl) (.t rfl))<| .cons (.move (lt1 rfl) (.t rfl))<| .cons (.call0 (bw := false) (lt1 rfl) (c71x1 (β1 := β1) n a0 hy_1) (.cons (.t rfl) (.ren rfl) (.cons (.t rfl) (.ren rfl) (.nil))) rfl)<| .cons (.geq (lt1 rfl) (.t rfl) (.const _ _ _))<| .cons (.assign (lt1 rfl) (.t rfl))<| ARun.nil _ _ _) ?_
 refine AWP.ret ?_
 obtain rfl := Option.some.inj h
 refine retJ (Res.vc (s' := ⟨[(4,bW (decide ((0 : Int) ≤ y_1)))],[]⟩) (VC.sub (.of rfl) (.n _)) ?_)
 refine Res.drop (H := []) rfl ?_
 exact Res.of rfl (.cons (.tmp rfl) (.nil)) rfl rfl
end Go.AB
