import Derived.Test.YtiginjokbkemcaaProg
import Derived.Test.YtiginjokbkemcaaF8a
import Derived.KernelRfl
set_option linter.unusedVariables false
set_option maxRecDepth 20000
namespace Go.AB
open Go Go.Proofs
theorem c47F (n : Nat) : ∀ (f : Nat) {β1 : Bool} {β2 : Bool} {β3 : Bool} {β4 : Bool} (a0 : R24) (a1 : (List Int)) (a2 : (List Int)) {r : (List Int)},m47F n f a0 a1 a2 = some r → Spec Try.prog 47 [] [.agg (pW β1 β2 a0),rW β3 a1 eW,rW β4 a2 eW] [] (rW β4 r eW) [] := by
 intro f
 induction f with
 | zero =>
  intro β1 β2 β3 β4 a0 a1 a2 r h
  cases (show (none : Option (List Int)) = some r from h)
 | succ f ih =>
 intro β1 β2 β3 β4 a0 a1 a2 r h
 replace h : m47B n (m47F n f) a0 a1 a2 = some r := h
 generalize m47F n f = rc_0 at h ih
 refine Spec.of (fn := Try.f47) Try.func47 Try.ntmps47 rfl rfl (le1 rfl) (fun w0 Zs Zb T0 ι0 => ?_)
 unfold m47B at h
 refine AWP.seq ?_
 refine AWP.rg (.cons (.box (t := 1) (n := 2) (l1 rfl) (nm rfl) (.t rfl) (by first | exact ⟨rfl,rfl⟩ | rfl) rfl)<| .cons (.assign (l1 rfl) (.const _ _ _))<| ARun.nil _ _ _) ?_
 refine AWP.vc (s' := ⟨[(1,rW β3 a1 eW),(2,rW β4 a2 eW),(3,.ptr 1 0)],[(1,⟨25,false,(pW β1 β2 a0)⟩)]⟩) (VC.sub (.of rfl) (.of rfl)) ?_
 refine AWP.seq ?_
 refine AWP.seq ?_
 refine AWP.rg (.cons (.move (l1 rfl) (.t rfl))<| .cons (.lenRd (l1 rfl) (.t rfl) Try.underlying28)<| .cons (.fieldP (l1 rfl) (.t rfl) fld25_0)<| .cons (.loadP (l1 rfl) (.t rfl) one22 rfl rfl rfl)<| .cons (.lenRd (l1 rfl) (.t rfl) Try.underlying22)<| .cons (.eql (l1 rfl) (.t rfl) (.t rfl))<| ARun.nil _ _ _) ?_
 refine AWP.vc (s' := ⟨[(1,rW β3 a1 eW),(2,rW β4 a2 eW),(3,.ptr 1 0),(14,bW (decide ((a1.length : Int) = (a0.Pq.length : Int))))],[(1,⟨25,false,(pW β1 β2 a0)⟩)]⟩) (VC.sub (.of rfl) (.of rfl)) ?_
 refine AWP.cond (.t rfl) (fun hc => ?_) (fun hc => ?_)
 ·have h := iteT hc h
  refine AWP.seq ?_
  refine AWP.seq ?_
  obtain ⟨y_1,hy_1,h⟩ := bindS h
  obtain ⟨y_2,hy_2,h⟩ := bindS h
  refine AWP.draw (s' := ⟨[(1,rW β3 a1 eW),(2,rW β4 a2 eW),(26,bW ((decide ((a2.length : Int) = (0 : Int))) || (decide (y_1 < y_2))))],[(1,⟨25,false,(pW β1 β2 a0)⟩)]⟩) mixed [⟨1,rW β3 a1 eW,none,[]⟩,⟨2,rW β4 a2 eW,none,[]⟩,⟨3,.ptr 1 0,none,[]⟩,⟨14,bW (decide ((a1.length : Int) = (a0.Pq.length : Int))),none,[]⟩,⟨15,rW β4 a2 eW,some 0,[]⟩,⟨16,iW (a2.length : Int),some 1,[]⟩,⟨17,bW (decide ((a2.length : Int) = (0 : Int))),some 2,[]⟩,⟨18,bW (decide ((a2.length : Int) = (0 : Int))),some 3,[]⟩,⟨19,.gd (!(decide ((a2.length : Int) = (0 : Int)))) (.agg (pW β1 β2 a0)),some 4,[]⟩,⟨20,.gd (!(decide ((a2.length : Int) = (0 : Int)))) (rW β3 a1 eW),some 5,[]⟩,⟨21,.gd (!(decide ((a2.length : Int) = (0 : Int)))) (iW y_1),some 6,[]⟩,⟨22,.gd (!(decide ((a2.length : Int) = (0 : Int)))) (.agg (pW β1 β2 a0)),some 7,[]⟩,⟨23,.gd (!(decide ((a2.length : Int) = (0 : Int)))) (rW β4 a2 eW),some 8,[]⟩,⟨24,.gd (!(decide ((a2.length : Int) = (0 : Int)))) (iW y_2),some 9,[]⟩,⟨25,.gd (!(decide ((a2.length : Int) = (0 : Int)))) (bW (decide (y_1 < y_2))),some 10,[]⟩,⟨26,bW ((decide ((a2.length : Int) = (0 : Int))) || (decide (y_1 < y_2))),some 11,[]⟩] [⟨[1],0,0,some (15,rW β4 a2 eW),[]⟩,⟨[4],0,0,some (16,iW (a2.length : Int)),[]⟩,⟨[5],0,0,some (17,bW (decide ((a2.length : Int) = (0 : Int)))),[]⟩,⟨[6],0,0,some (18,bW (decide ((a2.length : Int) = (0 : Int)))),[]⟩,⟨[7,2],0,0,some (19,.gd (!(decide ((a2.length : Int) = (0 : Int)))) (.agg (pW β1 β2 a0))),[]⟩,⟨[7,0],0,0,some (20,.gd (!(decide ((a2.length : Int) = (0 : Int)))) (rW β3 a1 eW)),[]⟩,⟨[7,8,9],0,0,some (21,.gd (!(decide ((a2.length : Int) = (0 : Int)))) (iW y_1)),[]⟩,⟨[7,2],0,0,some (22,.gd (!(decide ((a2.length : Int) = (0 : Int)))) (.agg (pW β1 β2 a0))),[]⟩,⟨[7,1],0,0,some (23,.gd (!(decide ((a2.length : Int) = (0 : Int)))) (rW β4 a2 eW)),[]⟩,⟨[7,11,12],0,0,some (24,.gd (!(decide ((a2.length : Int) = (0 : Int)))) (iW y_2)),[]⟩,⟨[7,10,13],0,0,some (25,.gd (!(decide ((a2.length : Int) = (0 : Int)))) (bW (decide (y_1 < y_2)))),[]⟩,⟨[7,14],0,0,some (26,bW ((decide ((a2.length : Int) = (0 : Int))) || (decide (y_1 < y_2)))),[]⟩] [] [[(1,⟨25,false,(pW β1 β2 a0)⟩)]] [[],[0],[0,1],[0,1,2],[0,1,2,3],[0,1,2,3],[0,1,2,3,4,5],[0,1,2,3],[0,1,2,3],[0,1,2,3,4,5,6,7,8],[0,1,2,3,4,5,6,7,8,9],[0,1,2,3,4,5,6,7,8,9,10]] (by kernel_rfl) (by kernel_rfl) (BornL.ok (.o<| .o<| .o<| .o<| .b rfl rfl<| .b rfl rfl<| .b rfl rfl<| .b rfl rfl<| .b rfl rfl<| .b rfl rfl<| .b rfl rfl<| .b rfl rfl<| .b rfl rfl<| .b rfl rfl<| .b rfl rfl<| .b rfl rfl<| .n)) (BaseL.ok (.o rfl<| .o rfl<| .o rfl<| .o rfl<| .b<| .b<| .b<| .b<| .b<| .b<| .b<| .b<| .b<| .b<| .b<| .b<| .n)) rfl (by decide) (allLt rfl) (.pure rfl (fun H => .put (fun E hE => .move (l1 rfl) (.tmp (hE.at (k := 0) rfl))))<| .pure rfl (fun H => .put (fun E hE => .lenRd (l1 rfl) (.tmp (hE.at (k := 0) rfl)) Try.underlying28))<| .pure rfl (fun H => .put (fun E hE => .eql (l1 rfl) (.tmp (hE.at (k := 0) rfl)) (.const _ _ _)))<| .pure rfl (fun H => .put (fun E hE => .move (l1 rfl) (.tmp (hE.at (k := 0) rfl))))<| .read rfl (.c (.gput (b := (decide ((a2.length : Int) = (0 : Int)))) (want := false) (j := 3) (dj := 18) rfl (l1 rfl) (l1 rfl) (fun E hE => hE.at (k := 0) rfl) (fun hg E hE => .loadPA (l1 rfl) (.tmp (hE.at (k := 1) rfl)) agg25 rfl rfl rfl rfl)) .n)<| .pure rfl (fun H => .gput (b := (decide ((a2.length : Int) = (0 : Int)))) (want := false) (j := 3) (dj := 18) rfl (l1 rfl) (l1 rfl) (fun E hE => hE.at (k := 0) rfl) (fun hg E hE => .move (l1 rfl) (.tmp (hE.at (k := 1) rfl))))<| .pure rfl (fun H => .gput (b := (decide ((a2.length : Int) = (0 : Int)))) (want := false) (j := 3) (dj := 18) rfl (l1 rfl) (l1 rfl) (fun E hE => hE.at (k := 0) rfl) (fun hg E hE => .call0 (bw := false) (l1 rfl) (c20 (β1 := β1) (β2 := β2) (β3 := β3) n (R24.mk a0.Pq a0.Bq) a1 (gdB hy_1 hg)) (.cons (.gd hg (.tmp (hE.at (k := 1) rfl))) (.ren rfl) (.cons (.gd hg (.tmp (hE.at (k := 2) rfl))) (.ren rfl) (.nil))) rfl))<| .read rfl (.c (.gput (b := (decide ((a2.length : Int) = (0 : Int)))) (want := false) (j := 3) (dj := 18) rfl (l1 rfl) (l1 rfl) (fun E hE => hE.at (k := 0) rfl) (fun hg E hE => .loadPA (l1 rfl) (.tmp (hE.at (k := 1) rfl)) agg25 rfl rfl rfl rfl)) .n)<| .pure rfl (fun H => .gput (b := (decide ((a2.length : Int) = (0 : Int)))) (want := false) (j := 3) (dj := 18) rfl (l1 rfl) (l1 rfl) (fun E hE => hE.at (k := 0) rfl) (fun hg E hE => .move (l1 rfl) (.tmp (hE.at (k := 1) rfl))))<| .pure rfl (fun H => .gput (b := (decide ((a2.length : Int) = (0 : Int)))) (want := false) (j := 3) (dj := 18) rfl (l1 rfl) (l1 rfl) (fun E hE => hE.at (k := 0) rfl) (fun hg E hE => .call0 (bw := false) (l1 rfl) (c20 (β1 := β1) (β2 := β2) (β3 := β4) n (R24.mk a0.Pq a0.Bq) a2 (gdB hy_2 hg)) (.cons (.gd hg (.tmp (hE.at (k := 1) rfl))) (.ren rfl) (.cons (.gd hg (.tmp (hE.at (k := 2) rfl))) (.ren rfl) (.nil))) rfl))<| .pure rfl (fun H => .gput (b := (decide ((a2.length : Int) = (0 : Int)))) (want := false) (j := 3) (dj := 18) rfl (l1 rfl) (l1 rfl) (fun E hE => hE.at (k := 0) rfl) (fun hg E hE => .lss (l1 rfl) (.gd hg (.tmp (hE.at (k := 1) rfl))) (.gd hg (.tmp (hE.at (k := 2) rfl)))))<| .pure rfl (fun H => .put (fun E hE => .pickOr (l1 rfl) (.tmp (hE.at (k := 0) rfl)) (.const _ _ _) (.tmp (hE.at (k := 1) rfl))))<| .nil _) (fun E hE => .c (DInv.at hE (k := 0) rfl rfl rfl)<| .c (DInv.at hE (k := 1) rfl rfl rfl)<| .c (DInv.at hE (k := 15) rfl rfl rfl)<| .n _) rfl ?_
  refine AWP.vc (s' := ⟨[(1,rW β3 a1 eW),(2,rW β4 a2 eW),(26,bW ((decide ((a2.length : Int) = (0 : Int))) || (decide (y_1 < y_2))))],[]⟩) (VC.sub (.of rfl) (.n _)) ?_
  refine AWP.cond (.t rfl) (fun hc => ?_) (fun hc => ?_)
  ·have h := iteT hc h
   refine AWP.seq ?_
   obtain ⟨l2_3,hl2_3,h⟩ := bindS h
   refine AWP.rg (.cons (.buildSlice (t := 2) (out := ([] : List Int).flatMap eW) (l1 rfl) (nm rfl) (.nil) Try.underlying28 zero3 el3 (by decide) (by decide) rfl (still_all (encI_still .i64) _))<| .cons (.move (l1 rfl) (.t rfl))<| .cons (.app (enc := eW) (l1 rfl) (nm rfl) (.t rfl) (Src.rd (.t rfl) (flatMap_length (encI_len .i64) _) (one_all (encI_one .i64) _) (.inr (scal_all (encI_scal .i64) _))) Try.underlying28 ⟨_,Try.underlying28,by intro k hk; cases hk⟩ el3 rfl (encI_len .i64) rfl rfl (by decide) hl2_3)<| .cons (.assign (l1 rfl) (.t rfl))<| ARun.nil _ _ _) ?_
   refine AWP.ret ?_
   obtain rfl := Option.some.inj h
   refine retJ (Res.vc (s' := ⟨[(6,rW β4 l2_3 eW)],[]⟩) (VC.trans (VC.frz (d := 6) (t := 2) rfl rfl (encI_len .i64)) (VC.trans (VC.flagUp (d := 6) β4 rfl) (VC.sub (.of rfl) (.n _)))) ?_)
   refine Res.drop (H := []) rfl ?_
   exact Res.of rfl (.cons (.tmp rfl) (.nil)) rfl rfl
  ·have h := iteF hc h
   refine AWP.skip ?_
   refine AWP.seq ?_
   refine AWP.rg (.cons (.move (l1 rfl) (.t rfl))<| .cons (.assign (l1 rfl) (.t rfl))<| ARun.nil _ _ _) ?_
   refine AWP.ret ?_
   obtain rfl := Option.some.inj h
   refine retJ (Res.vc (s' := ⟨[(6,rW β4 a2 eW)],[]⟩) (VC.sub (.of rfl) (.n _)) ?_)
   refine Res.drop (H := []) rfl ?_
   exact Res.of rfl (.cons (.tmp rfl) (.nil)) rfl rfl
 ·have h := iteF hc h
  refine AWP.skip ?_
  refine AWP.seq ?_
  obtain ⟨y_4,hy_4,h⟩ := bindS h
  refine AWP.rg (.cons (.loadPA (l1 rfl) (.t rfl) agg25 rfl rfl rfl rfl)<| .cons (.move (l1 rfl) (.t rfl))<| .cons (.call0 (bw := false) (l1 rfl) (c45 (β1 := β1) (β2 := β2) (β3 := β3) n (R24.mk a0.Pq a0.Bq) a1 hy_4) (.cons (.t rfl) (.ren rfl) (.cons (.t rfl) (.ren rfl) (.nil))) rfl)<| .cons (.assign (l1 rfl) (.t rfl))<| ARun.nil _ _ _) ?_
  refine AWP.vc (s' := ⟨[(1,rW β3 a1 eW),(2,rW β4 a2 eW),(3,.ptr 1 0),(7,rW false y_4 eW)],[(1,⟨25,false,(pW β1 β2 a0)⟩)]⟩) (VC.sub (.of rfl) (.of rfl)) ?_
  refine AWP.seq ?_
  refine AWP.seq ?_
  refine AWP.rg (.cons (.assign (l1 rfl) (.const _ _ _))<| ARun.nil _ _ _) ?_
  refine AWP.vc (s' := ⟨[(1,rW β3 a1 eW),(2,rW β4 a2 eW),(3,.ptr 1 0),(7,rW false y_4 eW),(8,iW (0 : Int))],[(1,⟨25,false,(pW β1 β2 a0)⟩)]⟩) (VC.sub (.of rfl) (.of rfl)) ?_
  refine AWP.joinB' (S := fun p_24 : (List Int) => ⟨[(2,rW β4 p_24 eW)],[]⟩) h (fun p_24 h => ?_) (fun k_25 h => ?_)
  ·refine AWP.seq ?_
   refine AWP.rg (.cons (.move (l1 rfl) (.t rfl))<| .cons (.assign (l1 rfl) (.t rfl))<| ARun.nil _ _ _) ?_
   refine AWP.ret ?_
   obtain rfl := Option.some.inj h
   refine retJ (Res.vc (s' := ⟨[(6,rW β4 p_24 eW)],[]⟩) (VC.sub (.of rfl) (.n _)) ?_)
   refine Res.drop (H := []) rfl ?_
   exact Res.of rfl (.cons (.tmp rfl) (.nil)) rfl rfl
  ·refine AWP.vc (s' := ⟨[(1,rW β3 a1 eW),(2,rW β4 a2 eW),(3,.ptr 1 0),(7,rW false y_4 eW),(8,iW (0 : Int))],[(1,⟨25,false,(pW β1 β2 a0)⟩)]⟩) (VC.sub (.of rfl) (.of rfl)) ?_
   refine AWP.loopM (S := fun x_17 : (List Int) × Int => ⟨[(1,rW β3 a1 eW),(2,rW β4 x_17.1 eW),(3,.ptr 1 0),(7,rW false y_4 eW),(8,iW x_17.2)],[(1,⟨25,false,(pW β1 β2 a0)⟩)]⟩) (x := (a2,(0 : Int))) (fun nx_18 x_17 h => ?_) h
   unfold m47_L1 at h
   refine AWP.seq ?_
   refine AWP.seq ?_
   refine AWP.rg (.cons (.move (l1 rfl) (.t rfl))<| .cons (.move (l1 rfl) (.t rfl))<| .cons (.lenRd (l1 rfl) (.t rfl) Try.underlying28)<| .cons (.lss (l1 rfl) (.t rfl) (.t rfl))<| ARun.nil _ _ _) ?_
   refine AWP.vc (s' := ⟨[(1,rW β3 a1 eW),(2,rW β4 x_17.1 eW),(3,.ptr 1 0),(7,rW false y_4 eW),(8,iW x_17.2),(37,bW (decide (x_17.2 < (y_4.length : Int))))],[(1,⟨25,false,(pW β1 β2 a0)⟩)]⟩) (VC.sub (.of rfl) (.of rfl)) ?_
   refine AWP.cond (.t rfl) (fun hc => ?_) (fun hc => ?_)
   ·have h := iteT hc h
    refine AWP.skip ?_
    refine AWP.seq ?_
    refine AWP.block ?_
    obtain ⟨l3_19,hl3_19,h⟩ := bindS h
    obtain ⟨y_20,hy_20,h⟩ := bindS h
    obtain ⟨l3_21,hl3_21,h⟩ := bindS h
    obtain ⟨y_22,hy_22,h⟩ := bindS h
    refine AWP.draw (s' := ⟨[(1,rW β3 a1 eW),(2,rW β4 y_22 eW),(3,.ptr 1 0),(7,rW false y_4 eW),(8,iW x_17.2)],[(1,⟨25,false,(pW β1 β2 a0)⟩)]⟩) mixed [⟨1,rW β3 a1 eW,none,[]⟩,⟨2,rW β4 x_17.1 eW,none,[12]⟩,⟨3,.ptr 1 0,none,[]⟩,⟨7,rW false y_4 eW,none,[]⟩,⟨8,iW x_17.2,none,[]⟩,⟨37,bW (decide (x_17.2 < (y_4.length : Int))),none,[]⟩,⟨40,.agg (pW β1 β2 a0),some 0,[]⟩,⟨41,.own 3 1 0 ([] : List Int).length,some 1,[3,9]⟩,⟨42,rW β3 a1 eW,some 2,[]⟩,⟨43,.own 3 1 0 l3_19.length,some 3,[9]⟩,⟨44,rW false y_4 eW,some 4,[]⟩,⟨45,iW x_17.2,some 5,[]⟩,⟨46,.rptr false [iW y_20],some 6,[]⟩,⟨47,iW y_20,some 7,[]⟩,⟨48,rW false ([y_20] : List Int) eW,some 8,[]⟩,⟨49,rW false l3_21 eW,some 9,[]⟩,⟨50,rW β4 x_17.1 eW,some 10,[]⟩,⟨51,rW β4 y_22 eW,some 11,[]⟩,⟨2,rW β4 y_22 eW,some 12,[]⟩] [⟨[2],0,3,some (40,.agg (pW β1 β2 a0)),[]⟩,⟨[],0,0,some (41,.own 3 1 0 ([] : List Int).length),[3]⟩,⟨[0],0,3,some (42,rW β3 a1 eW),[]⟩,⟨[7,8],1,1,some (43,.own 3 1 0 l3_19.length),[3]⟩,⟨[3],0,3,some (44,rW false y_4 eW),[]⟩,⟨[4],0,3,some (45,iW x_17.2),[]⟩,⟨[10,11],0,3,some (46,.rptr false [iW y_20]),[]⟩,⟨[12],0,3,some (47,iW y_20),[]⟩,⟨[13],0,3,some (48,rW false ([y_20] : List Int) eW),[]⟩,⟨[9,14],2,2,some (49,rW false l3_21 eW),[3]⟩,⟨[1],0,3,some (50,rW β4 x_17.1 eW),[]⟩,⟨[6,15,16],0,3,some (51,rW β4 y_22 eW),[]⟩,⟨[17],0,3,some (2,rW β4 y_22 eW),[]⟩] [1,3,9] [[(1,⟨25,false,(pW β1 β2 a0)⟩)],[(3,⟨3,true,([] : List Int).flatMap eW⟩),(1,⟨25,false,(pW β1 β2 a0)⟩)],[(3,⟨3,true,l3_19.flatMap eW⟩),(1,⟨25,false,(pW β1 β2 a0)⟩)],[(1,⟨25,false,(pW β1 β2 a0)⟩)]] [[],[],[],[1,2],[],[],[4,5],[4,5,6],[4,5,6,7],[1,2,3,4,5,6,7,8],[],[0,1,2,3,4,5,6,7,8,9,10],[0,1,2,3,4,5,6,7,8,9,10,11]] (by kernel_rfl) (by kernel_rfl) (BornL.ok (.o<| .o<| .o<| .o<| .o<| .o<| .b rfl rfl<| .b rfl rfl<| .b rfl rfl<| .b rfl rfl<| .b rfl rfl<| .b rfl rfl<| .b rfl rfl<| .b rfl rfl<| .b rfl rfl<| .b rfl rfl<| .b rfl rfl<| .b rfl rfl<| .b rfl rfl<| .n)) (BaseL.ok (.o rfl<| .o rfl<| .o rfl<| .o rfl<| .o rfl<| .o rfl<| .b<| .b<| .b<| .b<| .b<| .b<| .b<| .b<| .b<| .b<| .b<| .b<| .b<| .n)) rfl (by decide) (allLt rfl) (.read rfl (.c (.put (fun E hE => .loadPA (l1 rfl) (.tmp (hE.at (k := 0) rfl)) agg25 rfl rfl rfl rfl)) (.c (.put (fun E hE => .loadPA (l1 rfl) (.tmp (hE.at (k := 0) rfl)) agg25 rfl rfl rfl rfl)) (.c (.put (fun E hE => .loadPA (l1 rfl) (.tmp (hE.at (k := 0) rfl)) agg25 rfl rfl rfl rfl)) (.c (.put (fun E hE => .loadPA (l1 rfl) (.tmp (hE.at (k := 0) rfl)) agg25 rfl rfl rfl rfl)) (.n)))))<| .turn rfl rfl rfl rfl rfl (.new (fun E hE => .buildSlice (t := 3) (out := ([] : List Int).flatMap eW) (l1 rfl) (nm rfl) (.nil) Try.underlying28 zero3 el3 (by decide) (by decide) rfl (still_all (encI_still .i64) _)) rfl)<| .pure rfl (fun H => .put (fun E hE => .move (l1 rfl) (.tmp (hE.at (k := 0) rfl))))<| .turn rfl rfl rfl rfl rfl (.new (fun E hE => .app (enc := eW) (l1 rfl) (nm rfl) (.tmp (hE.at (k := 0) rfl)) (Src.rd (.tmp (hE.at (k := 1) rfl)) (flatMap_length (encI_len .i64) _) (one_all (encI_one .i64) _) (.inr (scal_all (encI_scal .i64) _))) Try.underlying28 ⟨_,Try.underlying28,by intro k hk; cases hk⟩ el3 rfl (encI_len .i64) rfl rfl (by decide) hl3_19) rfl)<| .pure rfl (fun H => .put (fun E hE => .move (l1 rfl) (.tmp (hE.at (k := 0) rfl))))<| .pure rfl (fun H => .put (fun E hE => .move (l1 rfl) (.tmp (hE.at (k := 0) rfl))))<| .pure rfl (fun H => .put (fun E hE => .indexRd (enc := eW) (l1 rfl) (.tmp (hE.at (k := 0) rfl)) (.tmp (hE.at (k := 1) rfl)) Try.underlying28 sz3 (encI_len .i64) rfl hy_20))<| .pure rfl (fun H => .put (fun E hE => .loadR (v := iW y_20) (l1 rfl) (.tmp (hE.at (k := 0) rfl)) one3 rfl))<| .pure rfl (fun H => .put (fun E hE => .frzAny (fun t ht => AStep.buildSlice (t := t) (out := ([y_20] : List Int).flatMap eW) (l1 rfl) ht (.cons (.tmp (hE.at (k := 0) rfl)) (by first | exact ⟨rfl,rfl⟩ | rfl) (.nil)) Try.underlying28 zero3 el3 (by decide) (by decide) rfl (still_all (encI_still .i64) _)) rfl (encI_len .i64)))<| .turn rfl rfl rfl rfl rfl (.appFrz (fun E hE => .app (enc := eW) (l1 rfl) (nm rfl) (.tmp (hE.at (k := 0) rfl)) (Src.rd (.tmp (hE.at (k := 1) rfl)) (flatMap_length (encI_len .i64) _) (one_all (encI_one .i64) _) (.inl rfl)) Try.underlying28 ⟨_,Try.underlying28,by intro k hk; cases hk⟩ el3 rfl (encI_len .i64) rfl rfl (by decide) hl3_21) rfl (encI_len .i64))<| .pure rfl (fun H => .put (fun E hE => .move (l1 rfl) (.tmp (hE.at (k := 0) rfl))))<| .pure rfl (fun H => .put (fun E hE => .call0 (bw := false) (l1 rfl) (ih (β1 := β1) (β2 := β2) (β3 := false) (β4 := β4) (R24.mk a0.Pq a0.Bq) l3_21 x_17.1 hy_22) (.cons (.tmp (hE.at (k := 0) rfl)) (.ren rfl) (.cons (.tmp (hE.at (k := 1) rfl)) (.ren rfl) (.cons (.tmp (hE.at (k := 2) rfl)) (.ren rfl) (.nil)))) rfl))<| .pure rfl (fun H => .put (fun E hE => .assign (l1 rfl) (.tmp (hE.at (k := 0) rfl))))<| .nil _) (fun E hE => .c (DInv.at hE (k := 0) rfl rfl rfl)<| .c (DInv.at hE (k := 18) rfl rfl rfl)<| .c (DInv.at hE (k := 2) rfl rfl rfl)<| .c (DInv.at hE (k := 3) rfl rfl rfl)<| .c (DInv.at hE (k := 4) rfl rfl rfl)<| .n _) rfl ?_
    refine AWP.vc (s' := ⟨[(1,rW β3 a1 eW),(2,rW β4 y_22 eW),(3,.ptr 1 0),(7,rW false y_4 eW),(8,iW x_17.2)],[(1,⟨25,false,(pW β1 β2 a0)⟩)]⟩) (VC.sub (.of rfl) (.of rfl)) ?_
    obtain ⟨t8_23,ht8_23,h⟩ := letS h
    refine AWP.rg (.cons (.move (l1 rfl) (.t rfl))<| .cons (.add (l1 rfl) (.t rfl) (.const _ _ _))<| .cons (.assign (l1 rfl) (.t rfl))<| ARun.nil _ _ _) ?_
    exact endJ (y_22,t8_23) h (by subst ht8_23; exact VC.sub (.of rfl) (.of rfl))
   ·have h := iteF hc h
    refine AWP.exit ?_
    exact endJ x_17.1 h (VC.sub (.of rfl) (.n _))
theorem c47 (n : Nat) {β1 : Bool} {β2 : Bool} {β3 : Bool} {β4 : Bool} (a0 : R24) (a1 : (List Int)) (a2 : (List Int)) {r : (List Int)} (h : m47 n a0 a1 a2 = some r) : Spec Try.prog 47 [] [.agg (pW β1 β2 a0),rW β3 a1 eW,rW β4 a2 eW] [] (rW β4 r eW) [] := c47F n n a0 a1 a2 h
theorem c16 {β1 : Bool} {β2 : Bool} (n : Nat) (a0 : R24) {r : ((List Int) × Int × Int)} (h : m16 n a0 = some r) : Spec Try.prog 16 [] [.agg (pW β1 β2 a0)] [] (.tup [rW false r.1 eW,iW r.2.1,iW r.2.2]) [] := by
 refine Spec.of (fn := Try.f16) Try.func16 Try.ntmps16 rfl rfl (le1 rfl) (fun w0 Zs Zb T0 ι0 => ?_)
 unfold m16 at h
 refine AWP.seq ?_
 refine AWP.rg (.cons (.box (t := 1) (n := 2) (l1 rfl) (nm rfl) (.t rfl) (by first | exact ⟨rfl,rfl⟩ | rfl) rfl)<| .cons (.assign (l1 rfl) (.const _ _ _))<| .cons (.assign (l1 rfl) (.const _ _ _))<| .cons (.assign (l1 rfl) (.const _ _ _))<| ARun.nil _ _ _) ?_
 refine AWP.vc (s' := ⟨[(1,.ptr 1 0)],[(1,⟨25,false,(pW β1 β2 a0)⟩)]⟩) (VC.sub (.of rfl) (.of rfl)) ?_
 refine AWP.seq ?_
 refine AWP.block ?_
 refine AWP.seq ?_
 obtain ⟨y_1,hy_1,h⟩ := bindS h
 refine AWP.rg (.cons (.loadPA (l1 rfl) (.t rfl) agg25 rfl rfl rfl rfl)<| .cons (.call0 (bw := false) (l1 rfl) (c15 (β1 := β1) (β2 := β2) n (R24.mk a0.Pq a0.Bq) hy_1) (.cons (.t rfl) (.ren rfl) (.nil)) rfl)<| .cons (.not (l1 rfl) (.t rfl))<| .cons (.assign (l1 rfl) (.t rfl))<| ARun.nil _ _ _) ?_
 refine AWP.vc (s' := ⟨[(1,.ptr 1 0),(6,bW (!y_1))],[(1,⟨25,false,(pW β1 β2 a0)⟩)]⟩) (VC.sub (.of rfl) (.of rfl)) ?_
 refine AWP.cond (.t rfl) (fun hc => ?_) (fun hc => ?_)
 ·have h := iteT hc h
  refine AWP.seq ?_
  refine AWP.rg (.cons (.assign (l1 rfl) (.const _ _ _))<| .cons (.assign (l1 rfl) (.const _ _ _))<| .cons (.assign (l1 rfl) (.const _ _ _))<| ARun.nil _ _ _) ?_
  refine AWP.ret ?_
  obtain rfl := Option.some.inj h
  refine retJ (Res.vc (s' := ⟨[(2,rW false ([] : List Int) eW),(3,iW (0 : Int)),(4,iW (1 : Int))],[]⟩) (VC.trans (VC.nilRd (d := 2) false rfl) (VC.sub (.of rfl) (.n _))) ?_)
  refine Res.drop (H := []) rfl ?_
  exact Res.of rfl (.cons (.tmp rfl) (.cons (.tmp rfl) (.cons (.tmp rfl) (.nil)))) rfl rfl
 ·have h := iteF hc h
  refine AWP.seq ?_
  refine AWP.rg (.cons (.fieldP (l1 rfl) (.t rfl) fld25_0)<| .cons (.loadP (l1 rfl) (.t rfl) one22 rfl rfl rfl)<| .cons (.lenRd (l1 rfl) (.t rfl) Try.underlying22)<| .cons (.gtr (l1 rfl) (.t rfl) (.const _ _ _))<| .cons (.assign (l1 rfl) (.t rfl))<| ARun.nil _ _ _) ?_
  refine AWP.vc (s' := ⟨[(1,.ptr 1 0),(10,bW (decide ((8 : Int) < (a0.Pq.length : Int))))],[(1,⟨25,false,(pW β1 β2 a0)⟩)]⟩) (VC.sub (.of rfl) (.of rfl)) ?_
  refine AWP.cond (.t rfl) (fun hc => ?_) (fun hc => ?_)
  ·have h := iteT hc h
   refine AWP.seq ?_
   refine AWP.rg (.cons (.assign (l1 rfl) (.const _ _ _))<| .cons (.assign (l1 rfl) (.const _ _ _))<| .cons (.assign (l1 rfl) (.const _ _ _))<| ARun.nil _ _ _) ?_
   refine AWP.ret ?_
   obtain rfl := Option.some.inj h
   refine retJ (Res.vc (s' := ⟨[(2,rW false ([] : List Int) eW),(3,iW (0 : Int)),(4,iW (9 : Int))],[]⟩) (VC.trans (VC.nilRd (d := 2) false rfl) (VC.sub (.of rfl) (.n _))) ?_)
   refine Res.drop (H := []) rfl ?_
   exact Res.of rfl (.cons (.tmp rfl) (.cons (.tmp rfl) (.cons (.tmp rfl) (.nil)))) rfl rfl
  ·have h := iteF hc h
   refine AWP.skip ?_
   refine AWP.seq ?_
   obtain ⟨y_2,hy_2,h⟩ := bindS h
   refine AWP.rg (.cons (.loadPA (l1 rfl) (.t rfl) agg25 rfl rfl rfl rfl)<| .cons (.buildSlice (t := 2) (out := ([(0 : Int)] : List Int).flatMap eW) (l1 rfl) (nm rfl) (.cons (.const _ _ _) (by first | exact ⟨rfl,rfl⟩ | rfl) (.nil)) Try.underlying28 zero3 el3 (by decide) (by decide) rfl (still_all (encI_still .i64) _))<| .vc (VC.frz (d := 16) (t := 2) rfl rfl (encI_len .i64))<| .cons (.call0 (bw := false) (l1 rfl) (c47 (β1 := β1) (β2 := β2) (β3 := false) (β4 := false) n (R24.mk a0.Pq a0.Bq) ([(0 : Int)] : List Int) ([] : List Int) hy_2) (.cons (.t rfl) (.ren rfl) (.cons (.t rfl) (.ren rfl) (.cons (.const _ _ _) (.nil) (.nil)))) rfl)<| .cons (.assign (l1 rfl) (.t rfl))<| ARun.nil _ _ _) ?_
   refine AWP.vc (s' := ⟨[(1,.ptr 1 0),(5,rW false y_2 eW)],[(1,⟨25,false,(pW β1 β2 a0)⟩)]⟩) (VC.sub (.of rfl) (.of rfl)) ?_
   refine AWP.seq ?_
   obtain ⟨y_3,hy_3,h⟩ := bindS h
   refine AWP.rg (.cons (.move (l1 rfl) (.t rfl))<| .cons (.loadPA (l1 rfl) (.t rfl) agg25 rfl rfl rfl rfl)<| .cons (.move (l1 rfl) (.t rfl))<| .cons (.call0 (bw := false) (l1 rfl) (c20 (β1 := β1) (β2 := β2) (β3 := false) n (R24.mk a0.Pq a0.Bq) y_2 hy_3) (.cons (.t rfl) (.ren rfl) (.cons (.t rfl) (.ren rfl) (.nil))) rfl)<| .cons (.assign (l1 rfl) (.t rfl))<| .cons (.assign (l1 rfl) (.t rfl))<| .cons (.assign (l1 rfl) (.const _ _ _))<| ARun.nil _ _ _) ?_
   refine AWP.ret ?_
   obtain rfl := Option.some.inj h
   refine retJ (Res.vc (s' := ⟨[(2,rW false y_2 eW),(3,iW y_3),(4,iW (0 : Int))],[]⟩) (VC.sub (.of rfl) (.n _)) ?_)
   refine Res.drop (H := []) rfl ?_
   exact Res.of rfl (.cons (.tmp rfl) (.cons (.tmp rfl) (.cons (.tmp rfl) (.nil)))) rfl rfl
theorem c3 {β1 : Bool} {β2 : Bool} (n : Nat) (a0 : R24) {r : Bool} (h : m3 n a0 = some r) : Spec Try.prog 3 [] [.agg (pW β1 β2 a0)] [] (bW r) [] := by
 refine Spec.of (fn := Try.f3) Try.func3 Try.ntmps3 rfl rfl (le1 rfl) (fun w0 Zs Zb T0 ι0 => ?_)
 unfold m3 at h
 refine AWP.seq ?_
 refine AWP.rg (.cons (.box (t := 1) (n := 2) (l1 rfl) (nm rfl) (.t rfl) (by first | exact ⟨rfl,rfl⟩ | rfl) rfl)<| .cons (.assign (l1 rfl) (.const _ _ _))<| ARun.nil _ _ _) ?_
 refine AWP.vc (s' := ⟨[(1,.ptr 1 0)],[(1,⟨25,false,(pW β1 β2 a0)⟩)]⟩) (VC.sub (.of rfl) (.of rfl)) ?_
 refine AWP.seq ?_
 refine AWP.seq ?_
 obtain ⟨y_1,hy_1,h⟩ := bindS h
 obtain ⟨y_2,hy_2,h⟩ := bindS h
 refine AWP.rg (.cons (.call0 (bw := false) (l1 rfl) (c11 n hy_1) (.nil) rfl)<| .cons (.not (l1 rfl) (.t rfl))<| .cons (.move (l1 rfl) (.t rfl))<| .guard (j := 2) (dj := 11) rfl (l1 rfl) rfl (l1 rfl) (fun hg => .loadPA (l1 rfl) (.t rfl) agg25 rfl rfl rfl rfl)<| .guard (j := 2) (dj := 11) rfl (l1 rfl) rfl (l1 rfl) (fun hg => .call0 (bw := false) (l1 rfl) (c12 (β1 := β1) (β2 := β2) n (R24.mk a0.Pq a0.Bq) (gdB hy_2 hg)) (.cons (.gd hg (.t rfl)) (.ren rfl) (.nil)) rfl)<| .guard (j := 2) (dj := 11) rfl (l1 rfl) rfl (l1 rfl) (fun hg => .not (l1 rfl) (.gd hg (.t rfl)))<| .cons (.pickOr (l1 rfl) (.t rfl) (.const _ _ _) (.t rfl))<| ARun.nil _ _ _) ?_
 refine AWP.vc (s' := ⟨[(1,.ptr 1 0),(15,bW ((!y_1) || (!y_2)))],[(1,⟨25,false,(pW β1 β2 a0)⟩)]⟩) (VC.sub (.of rfl) (.of rfl)) ?_
 refine AWP.cond (.t rfl) (fun hc => ?_) (fun hc => ?_)
 ·have h := iteT hc h
  refine AWP.seq ?_
  obtain ⟨y_3,hy_3,h⟩ := bindS h
  refine AWP.rg (.cons (.call0 (bw := false) (l1 rfl) (c11 n hy_3) (.nil) rfl)<| .cons (.assign (l1 rfl) (.t rfl))<| ARun.nil _ _ _) ?_
  refine AWP.ret ?_
  obtain rfl := Option.some.inj h
  refine retJ (Res.vc (s' := ⟨[(2,bW y_3)],[]⟩) (VC.sub (.of rfl) (.n _)) ?_)
  refine Res.drop (H := []) rfl ?_
  exact Res.of rfl (.cons (.tmp rfl) (.nil)) rfl rfl
 ·have h := iteF hc h
  refine AWP.skip ?_
  refine AWP.seq ?_
  obtain ⟨y_4,hy_4,h⟩ := bindS h
  obtain ⟨y_5,hy_5,h⟩ := bindS h
  refine AWP.rg (.cons (.loadPA (l1 rfl) (.t rfl) agg25 rfl rfl rfl rfl)<| .cons (.call0 (bw := false) (l1 rfl) (c14 (β1 := β1) (β2 := β2) n (R24.mk a0.Pq a0.Bq) hy_4) (.cons (.t rfl) (.ren rfl) (.nil)) rfl)<| .cons (.call0 (bw := false) (l1 rfl) (c13 (β1 := β1) (β2 := β2) n (R24.mk y_4.Pq y_4.Bq) hy_5) (.cons (.t rfl) (.ren rfl) (.nil)) rfl)<| .cons (.move (l1 rfl) (.t rfl))<| .cons (.extract (l1 rfl) (.t rfl) rfl)<| .cons (.extract (l1 rfl) (.t rfl) rfl)<| .cons (.extract (l1 rfl) (.t rfl) rfl)<| .cons (.assign (l1 rfl) (.t rfl))<| .cons (.assign (l1 rfl) (.t rfl))<| .cons (.assign (l1 rfl) (.t rfl))<| ARun.nil _ _ _) ?_
  refine AWP.vc (s' := ⟨[(1,.ptr 1 0),(3,rW false y_5.1 eW),(4,iW y_5.2.1),(5,iW y_5.2.2)],[(1,⟨25,false,(pW β1 β2 a0)⟩)]⟩) (VC.sub (.of rfl) (.of rfl)) ?_
  refine AWP.seq ?_
  refine AWP.seq ?_
  refine AWP.rg (.cons (.fieldP (l1 rfl) (.t rfl) fld25_0)<| .cons (.loadP (l1 rfl) (.t rfl) one22 rfl rfl rfl)<| .cons (.lenRd (l1 rfl) (.t rfl) Try.underlying22)<| .cons (.gtr (l1 rfl) (.t rfl) (.const _ _ _))<| ARun.nil _ _ _) ?_
  refine AWP.vc (s' := ⟨[(1,.ptr 1 0),(3,rW false y_5.1 eW),(4,iW y_5.2.1),(5,iW y_5.2.2),(27,bW (decide ((6 : Int) < (a0.Pq.length : Int))))],[(1,⟨25,false,(pW β1 β2 a0)⟩)]⟩) (VC.sub (.of rfl) (.of rfl)) ?_
  refine AWP.cond (.t rfl) (fun hc => ?_) (fun hc => ?_)
  ·have h := iteT hc h
   refine AWP.seq ?_
   obtain ⟨y_6,hy_6,h⟩ := bindS h
   refine AWP.rg (.cons (.fieldP (l1 rfl) (.t rfl) fld25_0)<| .cons (.loadP (l1 rfl) (.t rfl) one22 rfl rfl rfl)<| .cons (.lenRd (l1 rfl) (.t rfl) Try.underlying22)<| .cons (.leq (l1 rfl) (.t rfl) (.const _ _ _))<| .cons (.move (l1 rfl) (.t rfl))<| .guard (j := 4) (dj := 32) rfl (l1 rfl) rfl (l1 rfl) (fun hg => .move (l1 rfl) (.t rfl))<| .guard (j := 4) (dj := 32) rfl (l1 rfl) rfl (l1 rfl) (fun hg => .eql (l1 rfl) (.gd hg (.t rfl)) (.const _ _ _))<| .cons (.pickOr (l1 rfl) (.t rfl) (.const _ _ _) (.t rfl))<| .cons (.move (l1 rfl) (.t rfl))<| .guard (j := 8) (dj := 36) rfl (l1 rfl) rfl (l1 rfl) (fun hg => .move (l1 rfl) (.t rfl))<| .guard (j := 8) (dj := 36) rfl (l1 rfl) rfl (l1 rfl) (fun hg => .eql (l1 rfl) (.gd hg (.t rfl)) (.const _ _ _))<| .guard (j := 8) (dj := 36) rfl (l1 rfl) rfl (l1 rfl) (fun hg => .move (l1 rfl) (.gd hg (.t rfl)))<| .guard2 (j := 11) (dj := 39) rfl (l1 rfl) rfl (l1 rfl) (fun hg => .loadPA (l1 rfl) (.t rfl) agg25 rfl rfl rfl rfl)<| .guard2 (j := 11) (dj := 39) rfl (l1 rfl) rfl (l1 rfl) (fun hg => .call0 (bw := false) (l1 rfl) (c15 (β1 := β1) (β2 := β2) n (R24.mk a0.Pq a0.Bq) (gdB hy_6 hg)) (.cons (.gd hg (.t rfl)) (.ren rfl) (.nil)) rfl)<| .guard2 (j := 11) (dj := 39) rfl (l1 rfl) rfl (l1 rfl) (fun hg => .not (l1 rfl) (.gd hg (.t rfl)))<| .guard (j := 8) (dj := 36) rfl (l1 rfl) rfl (l1 rfl) (fun hg => .pickAnd (l1 rfl) (.gd hg (.t rfl)) (.gdAnd hg (.t rfl)) (.const _ _ _))<| .cons (.pickOr (l1 rfl) (.t rfl) (.const _ _ _) (.t rfl))<| .cons (.assign (l1 rfl) (.t rfl))<| ARun.nil _ _ _) ?_
   refine AWP.ret ?_
   obtain rfl := Option.some.inj h
   refine retJ (Res.vc (s' := ⟨[(2,bW (((decide ((a0.Pq.length : Int) ≤ (8 : Int))) || (decide (y_5.2.2 = (9 : Int)))) || ((decide (y_5.2.2 = (1 : Int))) && (!y_6))))],[]⟩) (VC.sub (.of rfl) (.n _)) ?_)
   refine Res.drop (H := []) rfl ?_
   exact Res.of rfl (.cons (.tmp rfl) (.nil)) rfl rfl
  ·have h := iteF hc h
   refine AWP.skip ?_
   refine AWP.seq ?_
   obtain ⟨y_7,hy_7,h⟩ := bindS h
   refine AWP.rg (.cons (.loadPA (l1 rfl) (.t rfl) agg25 rfl rfl rfl rfl)<| .cons (.call0 (bw := false) (l1 rfl) (c16 (β1 := β1) (β2 := β2) n (R24.mk a0.Pq a0.Bq) hy_7) (.cons (.t rfl) (.ren rfl) (.nil)) rfl)<| .cons (.move (l1 rfl) (.t rfl))<| .cons (.extract (l1 rfl) (.t rfl) rfl)<| .cons (.extract (l1 rfl) (.t rfl) rfl)<| .cons (.extract (l1 rfl) (.t rfl) rfl)<| .cons (.assign (l1 rfl) (.t rfl))<| .cons (.assign (l1 rfl) (.t rfl))<| .cons (.assign (l1 rfl) (.t rfl))<| ARun.nil _ _ _) ?_
   refine AWP.vc (s' := ⟨[(3,rW false y_5.1 eW),(4,iW y_5.2.1),(5,iW y_5.2.2),(6,rW false y_7.1 eW),(7,iW y_7.2.1),(8,iW y_7.2.2)],[]⟩) (VC.sub (.of rfl) (.n _)) ?_
   refine AWP.seq ?_
   obtain ⟨y_8,hy_8,h⟩ := bindS h
   refine AWP.rg (.cons (.move (l1 rfl) (.t rfl))<| .cons (.move (l1 rfl) (.t rfl))<| .cons (.call0 (bw := false) (l1 rfl) (c17 (β1 := false) (β2 := false) n y_5.1 y_7.1 hy_8) (.cons (.t rfl) (.ren rfl) (.cons (.t rfl) (.ren rfl) (.nil))) rfl)<| .cons (.move (l1 rfl) (.t rfl))<| .guard (j := 3) (dj := 54) rfl (l1 rfl) rfl (l1 rfl) (fun hg => .move (l1 rfl) (.t rfl))<| .guard (j := 3) (dj := 54) rfl (l1 rfl) rfl (l1 rfl) (fun hg => .move (l1 rfl) (.t rfl))<| .guard (j := 3) (dj := 54) rfl (l1 rfl) rfl (l1 rfl) (fun hg => .eql (l1 rfl) (.gd hg (.t rfl)) (.gd hg (.t rfl)))<| .cons (.pickAnd (l1 rfl) (.t rfl) (.t rfl) (.const _ _ _))<| .cons (.move (l1 rfl) (.t rfl))<| .guard (j := 8) (dj := 59) rfl (l1 rfl) rfl (l1 rfl) (fun hg => .move (l1 rfl) (.t rfl))<| .guard (j := 8) (dj := 59) rfl (l1 rfl) rfl (l1 rfl) (fun hg => .move (l1 rfl) (.t rfl))<| .guard (j := 8) (dj := 59) rfl (l1 rfl) rfl (l1 rfl) (fun hg => .eql (l1 rfl) (.gd hg (.t rfl)) (.gd hg (.t rfl)))<| .cons (.pickAnd (l1 rfl) (.t rfl) (.t rfl) (.const _ _ _))<| .cons (.assign (l1 rfl) (.t rfl))<| ARun.nil _ _ _) ?_
   refine AWP.ret ?_
   obtain rfl := Option.some.inj h
   refine retJ (Res.vc (s' := ⟨[(2,bW ((y_8 && (decide (y_5.2.1 = y_7.2.1))) && (decide (y_5.2.2 = y_7.2.2))))],[]⟩) (VC.sub (.of rfl) (.n _)) ?_)
   refine Res.drop (H := []) rfl ?_
   exact Res.of rfl (.cons (.tmp rfl) (.nil)) rfl rfl
end Go.AB
