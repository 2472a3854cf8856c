import Derived.Test.YtiginjokbkemcaaProg
import Derived.Test.YtiginjokbkemcaaF8a
import Derived.KernelRfl
set_option linter.unusedVariables false
set_option maxRecDepth 20000
namespace Go.AB
open Go Go.Proofs
theorem c47F (n : Nat) : ∀ (f : Nat) {β1 : Bool} {β2 : Bool} {β3 : Bool} {β4 : Bool} (a0 : R24) (a1 : (List Int)) (a2 : (List Int)) {r : (List Int)},m47F n f a0 a1 a2 = some r → Spec Try.prog 47 [] [.agg [.rd β1 a0.Points.length (a0.Points.flatMap encR45),.rd β2 a0.Before.length (a0.Before.flatMap encR93)],.rd β3 a1.length (a1.flatMap (encI .i64)),.rd β4 a2.length (a2.flatMap (encI .i64))] [] (.rd β4 r.length (r.flatMap (encI .i64))) [] := by
  intro f
  induction f with
  | zero =>
    intro β1 β2 β3 β4 a0 a1 a2 r h
    cases (show (none : Option (List Int)) = some r from h)
  | succ f ih =>
  intro β1 β2 β3 β4 a0 a1 a2 r h
  replace h : m47B n (m47F n f) a0 a1 a2 = some r := h
  generalize m47F n f = rc_0 at h ih
  refine Spec.of (fn := Try.f47) Try.func47 Try.ntmps47 rfl rfl (le1 rfl) (fun w0 Zs Zb T0 ι0 => ?_)
  unfold m47B at h
  refine AWP.seq ?_
  refine AWP.region (.cons (.box (t := 1) (n := 2) (lt1 rfl) (nm rfl) (.tmp rfl) (by first | exact ⟨rfl,rfl⟩ | rfl) rfl)<| .cons (.assign (lt1 rfl) (.const _ _ _))<| ARun.nil _ _ _) ?_
  refine AWP.vc (s' := ⟨[(1,.rd β3 a1.length (a1.flatMap (encI .i64))),(2,.rd β4 a2.length (a2.flatMap (encI .i64))),(3,.ptr 1 0)],[(1,⟨25,false,[.rd β1 a0.Points.length (a0.Points.flatMap encR45),.rd β2 a0.Before.length (a0.Before.flatMap encR93)]⟩)]⟩) (VC.sub (.c rfl<| .c rfl<| .c rfl<| .n _) (.c rfl<| .n _)) ?_
  refine AWP.seq ?_
  refine AWP.seq ?_
  refine AWP.region (.cons (.move (lt1 rfl) (.tmp rfl))<| .cons (.lenRd (lt1 rfl) (.tmp rfl) Try.underlying28)<| .cons (.fieldP (lt1 rfl) (.tmp rfl) fld25_0)<| .cons (.loadP (lt1 rfl) (.tmp rfl) one22 rfl rfl rfl)<| .cons (.lenRd (lt1 rfl) (.tmp rfl) Try.underlying22)<| .cons (.eql (lt1 rfl) (.tmp rfl) (.tmp rfl))<| ARun.nil _ _ _) ?_
  refine AWP.vc (s' := ⟨[(1,.rd β3 a1.length (a1.flatMap (encI .i64))),(2,.rd β4 a2.length (a2.flatMap (encI .i64))),(3,.ptr 1 0),(14,.sc (.bool (decide ((a1.length : Int) = (a0.Points.length : Int)))))],[(1,⟨25,false,[.rd β1 a0.Points.length (a0.Points.flatMap encR45),.rd β2 a0.Before.length (a0.Before.flatMap encR93)]⟩)]⟩) (VC.sub (.c rfl<| .c rfl<| .c rfl<| .c rfl<| .n _) (.c rfl<| .n _)) ?_
  refine AWP.cond (.tmp rfl) (fun hc => ?_) (fun hc => ?_)
  · have h := iteT hc h
    refine AWP.seq ?_
    refine AWP.seq ?_
    obtain ⟨y_1,hy_1,h⟩ := bindS h
    obtain ⟨y_2,hy_2,h⟩ := bindS h
    refine AWP.draw (s' := ⟨[(1,.rd β3 a1.length (a1.flatMap (encI .i64))),(2,.rd β4 a2.length (a2.flatMap (encI .i64))),(26,.sc (.bool ((decide ((a2.length : Int) = (0 : Int))) || (decide (y_1 < y_2)))))],[(1,⟨25,false,[.rd β1 a0.Points.length (a0.Points.flatMap encR45),.rd β2 a0.Before.length (a0.Before.flatMap encR93)]⟩)]⟩) mixed [⟨1,.rd β3 a1.length (a1.flatMap (encI .i64)),none,[]⟩,⟨2,.rd β4 a2.length (a2.flatMap (encI .i64)),none,[]⟩,⟨3,.ptr 1 0,none,[]⟩,⟨14,.sc (.bool (decide ((a1.length : Int) = (a0.Points.length : Int)))),none,[]⟩,⟨15,.rd β4 a2.length (a2.flatMap (encI .i64)),some 0,[]⟩,⟨16,.sc (.int .i64 (a2.length : Int)),some 1,[]⟩,⟨17,.sc (.bool (decide ((a2.length : Int) = (0 : Int)))),some 2,[]⟩,⟨18,.sc (.bool (decide ((a2.length : Int) = (0 : Int)))),some 3,[]⟩,⟨19,.gd (!(decide ((a2.length : Int) = (0 : Int)))) (.agg [.rd β1 a0.Points.length (a0.Points.flatMap encR45),.rd β2 a0.Before.length (a0.Before.flatMap encR93)]),some 4,[]⟩,⟨20,.gd (!(decide ((a2.length : Int) = (0 : Int)))) (.rd β3 a1.length (a1.flatMap (encI .i64))),some 5,[]⟩,⟨21,.gd (!(decide ((a2.length : Int) = (0 : Int)))) (.sc (.int .i64 y_1)),some 6,[]⟩,⟨22,.gd (!(decide ((a2.length : Int) = (0 : Int)))) (.agg [.rd β1 a0.Points.length (a0.Points.flatMap encR45),.rd β2 a0.Before.length (a0.Before.flatMap encR93)]),some 7,[]⟩,⟨23,.gd (!(decide ((a2.length : Int) = (0 : Int)))) (.rd β4 a2.length (a2.flatMap (encI .i64))),some 8,[]⟩,⟨24,.gd (!(decide ((a2.length : Int) = (0 : Int)))) (.sc (.int .i64 y_2)),some 9,[]⟩,⟨25,.gd (!(decide ((a2.length : Int) = (0 : Int)))) (.sc (.bool (decide (y_1 < y_2)))),some 10,[]⟩,⟨26,.sc (.bool ((decide ((a2.length : Int) = (0 : Int))) || (decide (y_1 < y_2)))),some 11,[]⟩] [⟨[1],0,0,some (15,.rd β4 a2.length (a2.flatMap (encI .i64))),[]⟩,⟨[4],0,0,some (16,.sc (.int .i64 (a2.length : Int))),[]⟩,⟨[5],0,0,some (17,.sc (.bool (decide ((a2.length : Int) = (0 : Int))))),[]⟩,⟨[6],0,0,some (18,.sc (.bool (decide ((a2.length : Int) = (0 : Int))))),[]⟩,⟨[7,2],0,0,some (19,.gd (!(decide ((a2.length : Int) = (0 : Int)))) (.agg [.rd β1 a0.Points.length (a0.Points.flatMap encR45),.rd β2 a0.Before.length (a0.Before.flatMap encR93)])),[]⟩,⟨[7,0],0,0,some (20,.gd (!(decide ((a2.length : Int) = (0 : Int)))) (.rd β3 a1.length (a1.flatMap (encI .i64)))),[]⟩,⟨[7,8,9],0,0,some (21,.gd (!(decide ((a2.length : Int) = (0 : Int)))) (.sc (.int .i64 y_1))),[]⟩,⟨[7,2],0,0,some (22,.gd (!(decide ((a2.length : Int) = (0 : Int)))) (.agg [.rd β1 a0.Points.length (a0.Points.flatMap encR45),.rd β2 a0.Before.length (a0.Before.flatMap encR93)])),[]⟩,⟨[7,1],0,0,some (23,.gd (!(decide ((a2.length : Int) = (0 : Int)))) (.rd β4 a2.length (a2.flatMap (encI .i64)))),[]⟩,⟨[7,11,12],0,0,some (24,.gd (!(decide ((a2.length : Int) = (0 : Int)))) (.sc (.int .i64 y_2))),[]⟩,⟨[7,10,13],0,0,some (25,.gd (!(decide ((a2.length : Int) = (0 : Int)))) (.sc (.bool (decide (y_1 < y_2))))),[]⟩,⟨[7,14],0,0,some (26,.sc (.bool ((decide ((a2.length : Int) = (0 : Int))) || (decide (y_1 < y_2))))),[]⟩] [] [[(1,⟨25,false,[.rd β1 a0.Points.length (a0.Points.flatMap encR45),.rd β2 a0.Before.length (a0.Before.flatMap encR93)]⟩)]] [[],[0],[0,1],[0,1,2],[0,1,2,3],[0,1,2,3],[0,1,2,3,4,5],[0,1,2,3],[0,1,2,3],[0,1,2,3,4,5,6,7,8],[0,1,2,3,4,5,6,7,8,9],[0,1,2,3,4,5,6,7,8,9,10]] (by kernel_rfl) (by kernel_rfl) (BornL.ok (.o<| .o<| .o<| .o<| .b rfl rfl<| .b rfl rfl<| .b rfl rfl<| .b rfl rfl<| .b rfl rfl<| .b rfl rfl<| .b rfl rfl<| .b rfl rfl<| .b rfl rfl<| .b rfl rfl<| .b rfl rfl<| .b rfl rfl<| .n)) (BaseL.ok (.o rfl<| .o rfl<| .o rfl<| .o rfl<| .b<| .b<| .b<| .b<| .b<| .b<| .b<| .b<| .b<| .b<| .b<| .b<| .n)) rfl (by decide) (allLt rfl) (.pure rfl (fun H => .put (fun E hE => .move (lt1 rfl) (.tmp (hE.at (k := 0) rfl))))<| .pure rfl (fun H => .put (fun E hE => .lenRd (lt1 rfl) (.tmp (hE.at (k := 0) rfl)) Try.underlying28))<| .pure rfl (fun H => .put (fun E hE => .eql (lt1 rfl) (.tmp (hE.at (k := 0) rfl)) (.const _ _ _)))<| .pure rfl (fun H => .put (fun E hE => .move (lt1 rfl) (.tmp (hE.at (k := 0) rfl))))<| .read rfl (.c (.gput (b := (decide ((a2.length : Int) = (0 : Int)))) (want := false) (j := 3) (dj := 18) rfl (lt1 rfl) (lt1 rfl) (fun E hE => hE.at (k := 0) rfl) (fun hg E hE => .loadPA (lt1 rfl) (.tmp (hE.at (k := 1) rfl)) agg25 rfl rfl rfl rfl)) .n)<| .pure rfl (fun H => .gput (b := (decide ((a2.length : Int) = (0 : Int)))) (want := false) (j := 3) (dj := 18) rfl (lt1 rfl) (lt1 rfl) (fun E hE => hE.at (k := 0) rfl) (fun hg E hE => .move (lt1 rfl) (.tmp (hE.at (k := 1) rfl))))<| .pure rfl (fun H => .gput (b := (decide ((a2.length : Int) = (0 : Int)))) (want := false) (j := 3) (dj := 18) rfl (lt1 rfl) (lt1 rfl) (fun E hE => hE.at (k := 0) rfl) (fun hg E hE => .call0 (bw := false) (lt1 rfl) (c20 (β1 := β1) (β2 := β2) (β3 := β3) n (R24.mk a0.Points a0.Before) a1 (gdB hy_1 hg)) (.cons (.gd hg (.tmp (hE.at (k := 1) rfl))) (.ren rfl) (.cons (.gd hg (.tmp (hE.at (k := 2) rfl))) (.ren rfl) (.nil))) rfl))<| .read rfl (.c (.gput (b := (decide ((a2.length : Int) = (0 : Int)))) (want := false) (j := 3) (dj := 18) rfl (lt1 rfl) (lt1 rfl) (fun E hE => hE.at (k := 0) rfl) (fun hg E hE => .loadPA (lt1 rfl) (.tmp (hE.at (k := 1) rfl)) agg25 rfl rfl rfl rfl)) .n)<| .pure rfl (fun H => .gput (b := (decide ((a2.length : Int) = (0 : Int)))) (want := false) (j := 3) (dj := 18) rfl (lt1 rfl) (lt1 rfl) (fun E hE => hE.at (k := 0) rfl) (fun hg E hE => .move (lt1 rfl) (.tmp (hE.at (k := 1) rfl))))<| .pure rfl (fun H => .gput (b := (decide ((a2.length : Int) = (0 : Int)))) (want := false) (j := 3) (dj := 18) rfl (lt1 rfl) (lt1 rfl) (fun E hE => hE.at (k := 0) rfl) (fun hg E hE => .call0 (bw := false) (lt1 rfl) (c20 (β1 := β1) (β2 := β2) (β3 := β4) n (R24.mk a0.Points a0.Before) a2 (gdB hy_2 hg)) (.cons (.gd hg (.tmp (hE.at (k := 1) rfl))) (.ren rfl) (.cons (.gd hg (.tmp (hE.at (k := 2) rfl))) (.ren rfl) (.nil))) rfl))<| .pure rfl (fun H => .gput (b := (decide ((a2.length : Int) = (0 : Int)))) (want := false) (j := 3) (dj := 18) rfl (lt1 rfl) (lt1 rfl) (fun E hE => hE.at (k := 0) rfl) (fun hg E hE => .lss (lt1 rfl) (.gd hg (.tmp (hE.at (k := 1) rfl))) (.gd hg (.tmp (hE.at (k := 2) rfl)))))<| .pure rfl (fun H => .put (fun E hE => .pickOr (lt1 rfl) (.tmp (hE.at (k := 0) rfl)) (.const _ _ _) (.tmp (hE.at (k := 1) rfl))))<| .nil _) (fun E hE => .c (DInv.at hE (k := 0) rfl rfl rfl)<| .c (DInv.at hE (k := 1) rfl rfl rfl)<| .c (DInv.at hE (k := 15) rfl rfl rfl)<| .n _) rfl ?_
    refine AWP.vc (s' := ⟨[(1,.rd β3 a1.length (a1.flatMap (encI .i64))),(2,.rd β4 a2.length (a2.flatMap (encI .i64))),(26,.sc (.bool ((decide ((a2.length : Int) = (0 : Int))) || (decide (y_1 < y_2)))))],[]⟩) (VC.sub (.c rfl<| .c rfl<| .c rfl<| .n _) (.n _)) ?_
    refine AWP.cond (.tmp rfl) (fun hc => ?_) (fun hc => ?_)
    · have h := iteT hc h
      refine AWP.seq ?_
      obtain ⟨l2_3,hl2_3,h⟩ := bindS h
      refine AWP.region (.cons (.buildSlice (t := 2) (out := ([] : List Int).flatMap (encI .i64)) (lt1 rfl) (nm rfl) (.nil) Try.underlying28 zero3 el3 (by decide) (by decide) rfl (still_all (encI_still .i64) _))<| .cons (.move (lt1 rfl) (.tmp rfl))<| .cons (.app (enc := (encI .i64)) (lt1 rfl) (nm rfl) (.tmp rfl) (Src.rd (.tmp rfl) (flatMap_length (encI_len .i64) _) (one_all (encI_one .i64) _) (.inr (scal_all (encI_scal .i64) _))) Try.underlying28 ⟨_,Try.underlying28,by intro k hk; cases hk⟩ el3 rfl (encI_len .i64) rfl rfl (by decide) hl2_3)<| .cons (.assign (lt1 rfl) (.tmp rfl))<| ARun.nil _ _ _) ?_
      refine AWP.ret ?_
      obtain rfl := Option.some.inj h
      refine retJ (Res.vc (s' := ⟨[(6,.rd β4 l2_3.length (l2_3.flatMap (encI .i64)))],[]⟩) (VC.trans (VC.frz (d := 6) (t := 2) rfl rfl (encI_len .i64)) (VC.trans (VC.flagUp (d := 6) β4 rfl) (VC.sub (.c rfl<| .n _) (.n _)))) ?_)
      refine Res.drop (H := []) rfl ?_
      exact Res.of rfl (.cons (.tmp rfl) (.nil)) rfl rfl
    · have h := iteF hc h
      refine AWP.skip ?_
      refine AWP.seq ?_
      refine AWP.region (.cons (.move (lt1 rfl) (.tmp rfl))<| .cons (.assign (lt1 rfl) (.tmp rfl))<| ARun.nil _ _ _) ?_
      refine AWP.ret ?_
      obtain rfl := Option.some.inj h
      refine retJ (Res.vc (s' := ⟨[(6,.rd β4 a2.length (a2.flatMap (encI .i64)))],[]⟩) (VC.sub (.c rfl<| .n _) (.n _)) ?_)
      refine Res.drop (H := []) rfl ?_
      exact Res.of rfl (.cons (.tmp rfl) (.nil)) rfl rfl
  · have h := iteF hc h
    refine AWP.skip ?_
    refine AWP.seq ?_
    obtain ⟨y_4,hy_4,h⟩ := bindS h
    refine AWP.region (.cons (.loadPA (lt1 rfl) (.tmp rfl) agg25 rfl rfl rfl rfl)<| .cons (.move (lt1 rfl) (.tmp rfl))<| .cons (.call0 (bw := false) (lt1 rfl) (c45 (β1 := β1) (β2 := β2) (β3 := β3) n (R24.mk a0.Points a0.Before) a1 hy_4) (.cons (.tmp rfl) (.ren rfl) (.cons (.tmp rfl) (.ren rfl) (.nil))) rfl)<| .cons (.assign (lt1 rfl) (.tmp rfl))<| ARun.nil _ _ _) ?_
    refine AWP.vc (s' := ⟨[(1,.rd β3 a1.length (a1.flatMap (encI .i64))),(2,.rd β4 a2.length (a2.flatMap (encI .i64))),(3,.ptr 1 0),(7,.rd false y_4.length (y_4.flatMap (encI .i64)))],[(1,⟨25,false,[.rd β1 a0.Points.length (a0.Points.flatMap encR45),.rd β2 a0.Before.length (a0.Before.flatMap encR93)]⟩)]⟩) (VC.sub (.c rfl<| .c rfl<| .c rfl<| .c rfl<| .n _) (.c rfl<| .n _)) ?_
    refine AWP.seq ?_
    refine AWP.seq ?_
    refine AWP.region (.cons (.assign (lt1 rfl) (.const _ _ _))<| ARun.nil _ _ _) ?_
    refine AWP.vc (s' := ⟨[(1,.rd β3 a1.length (a1.flatMap (encI .i64))),(2,.rd β4 a2.length (a2.flatMap (encI .i64))),(3,.ptr 1 0),(7,.rd false y_4.length (y_4.flatMap (encI .i64))),(8,.sc (.int .i64 (0 : Int)))],[(1,⟨25,false,[.rd β1 a0.Points.length (a0.Points.flatMap encR45),.rd β2 a0.Before.length (a0.Before.flatMap encR93)]⟩)]⟩) (VC.sub (.c rfl<| .c rfl<| .c rfl<| .c rfl<| .c rfl<| .n _) (.c rfl<| .n _)) ?_
    refine AWP.joinB' (S := fun p_24 : (List Int) => ⟨[(2,.rd β4 p_24.length (p_24.flatMap (encI .i64)))],[]⟩) h (fun p_24 h => ?_) (fun k_25 h => ?_)
    · refine AWP.seq ?_
      refine AWP.region (.cons (.move (lt1 rfl) (.tmp rfl))<| .cons (.assign (lt1 rfl) (.tmp rfl))<| ARun.nil _ _ _) ?_
      refine AWP.ret ?_
      obtain rfl := Option.some.inj h
      refine retJ (Res.vc (s' := ⟨[(6,.rd β4 p_24.length (p_24.flatMap (encI .i64)))],[]⟩) (VC.sub (.c rfl<| .n _) (.n _)) ?_)
      refine Res.drop (H := []) rfl ?_
      exact Res.of rfl (.cons (.tmp rfl) (.nil)) rfl rfl
    · refine AWP.vc (s' := ⟨[(1,.rd β3 a1.length (a1.flatMap (encI .i64))),(2,.rd β4 a2.length (a2.flatMap (encI .i64))),(3,.ptr 1 0),(7,.rd false y_4.length (y_4.flatMap (encI .i64))),(8,.sc (.int .i64 (0 : Int)))],[(1,⟨25,false,[.rd β1 a0.Points.length (a0.Points.flatMap encR45),.rd β2 a0.Before.length (a0.Before.flatMap encR93)]⟩)]⟩) (VC.sub (.c rfl<| .c rfl<| .c rfl<| .c rfl<| .c rfl<| .n _) (.c rfl<| .n _)) ?_
      refine AWP.loopM (S := fun x_17 : (List Int) × Int => ⟨[(1,.rd β3 a1.length (a1.flatMap (encI .i64))),(2,.rd β4 x_17.1.length (x_17.1.flatMap (encI .i64))),(3,.ptr 1 0),(7,.rd false y_4.length (y_4.flatMap (encI .i64))),(8,.sc (.int .i64 x_17.2))],[(1,⟨25,false,[.rd β1 a0.Points.length (a0.Points.flatMap encR45),.rd β2 a0.Before.length (a0.Before.flatMap encR93)]⟩)]⟩) (x := (a2,(0 : Int))) (fun nx_18 x_17 h => ?_) h
      unfold m47_L1 at h
      refine AWP.seq ?_
      refine AWP.seq ?_
      refine AWP.region (.cons (.move (lt1 rfl) (.tmp rfl))<| .cons (.move (lt1 rfl) (.tmp rfl))<| .cons (.lenRd (lt1 rfl) (.tmp rfl) Try.underlying28)<| .cons (.lss (lt1 rfl) (.tmp rfl) (.tmp rfl))<| ARun.nil _ _ _) ?_
      refine AWP.vc (s' := ⟨[(1,.rd β3 a1.length (a1.flatMap (encI .i64))),(2,.rd β4 x_17.1.length (x_17.1.flatMap (encI .i64))),(3,.ptr 1 0),(7,.rd false y_4.length (y_4.flatMap (encI .i64))),(8,.sc (.int .i64 x_17.2)),(37,.sc (.bool (decide (x_17.2 < (y_4.length : Int)))))],[(1,⟨25,false,[.rd β1 a0.Points.length (a0.Points.flatMap encR45),.rd β2 a0.Before.length (a0.Before.flatMap encR93)]⟩)]⟩) (VC.sub (.c rfl<| .c rfl<| .c rfl<| .c rfl<| .c rfl<| .c rfl<| .n _) (.c rfl<| .n _)) ?_
      refine AWP.cond (.tmp rfl) (fun hc => ?_) (fun hc => ?_)
      · have h := iteT hc h
        refine AWP.skip ?_
        refine AWP.seq ?_
        refine AWP.block ?_
        obtain ⟨l3_19,hl3_19,h⟩ := bindS h
        obtain ⟨y_20,hy_20,h⟩ := bindS h
        obtain ⟨l3_21,hl3_21,h⟩ := bindS h
        obtain ⟨y_22,hy_22,h⟩ := bindS h
        refine AWP.draw (s' := ⟨[(1,.rd β3 a1.length (a1.flatMap (encI .i64))),(2,.rd β4 y_22.length (y_22.flatMap (encI .i64))),(3,.ptr 1 0),(7,.rd false y_4.length (y_4.flatMap (encI .i64))),(8,.sc (.int .i64 x_17.2))],[(1,⟨25,false,[.rd β1 a0.Points.length (a0.Points.flatMap encR45),.rd β2 a0.Before.length (a0.Before.flatMap encR93)]⟩)]⟩) mixed [⟨1,.rd β3 a1.length (a1.flatMap (encI .i64)),none,[]⟩,⟨2,.rd β4 x_17.1.length (x_17.1.flatMap (encI .i64)),none,[12]⟩,⟨3,.ptr 1 0,none,[]⟩,⟨7,.rd false y_4.length (y_4.flatMap (encI .i64)),none,[]⟩,⟨8,.sc (.int .i64 x_17.2),none,[]⟩,⟨37,.sc (.bool (decide (x_17.2 < (y_4.length : Int)))),none,[]⟩,⟨40,.agg [.rd β1 a0.Points.length (a0.Points.flatMap encR45),.rd β2 a0.Before.length (a0.Before.flatMap encR93)],some 0,[]⟩,⟨41,.own 3 1 0 ([] : List Int).length,some 1,[3,9]⟩,⟨42,.rd β3 a1.length (a1.flatMap (encI .i64)),some 2,[]⟩,⟨43,.own 3 1 0 l3_19.length,some 3,[9]⟩,⟨44,.rd false y_4.length (y_4.flatMap (encI .i64)),some 4,[]⟩,⟨45,.sc (.int .i64 x_17.2),some 5,[]⟩,⟨46,.rptr false [.sc (.int .i64 y_20)],some 6,[]⟩,⟨47,.sc (.int .i64 y_20),some 7,[]⟩,⟨48,.rd false ([y_20] : List Int).length (([y_20] : List Int).flatMap (encI .i64)),some 8,[]⟩,⟨49,.rd false l3_21.length (l3_21.flatMap (encI .i64)),some 9,[]⟩,⟨50,.rd β4 x_17.1.length (x_17.1.flatMap (encI .i64)),some 10,[]⟩,⟨51,.rd β4 y_22.length (y_22.flatMap (encI .i64)),some 11,[]⟩,⟨2,.rd β4 y_22.length (y_22.flatMap (encI .i64)),some 12,[]⟩] [⟨[2],0,3,some (40,.agg [.rd β1 a0.Points.length (a0.Points.flatMap encR45),.rd β2 a0.Before.length (a0.Before.flatMap encR93)]),[]⟩,⟨[],0,0,some (41,.own 3 1 0 ([] : List Int).length),[3]⟩,⟨[0],0,3,some (42,.rd β3 a1.length (a1.flatMap (encI .i64))),[]⟩,⟨[7,8],1,1,some (43,.own 3 1 0 l3_19.length),[3]⟩,⟨[3],0,3,some (44,.rd false y_4.length (y_4.flatMap (encI .i64))),[]⟩,⟨[4],0,3,some (45,.sc (.int .i64 x_17.2)),[]⟩,⟨[10,11],0,3,some (46,.rptr false [.sc (.int .i64 y_20)]),[]⟩,⟨[12],0,3,some (47,.sc (.int .i64 y_20)),[]⟩,⟨[13],0,3,some (48,.rd false ([y_20] : List Int).length (([y_20] : List Int).flatMap (encI .i64))),[]⟩,⟨[9,14],2,2,some (49,.rd false l3_21.length (l3_21.flatMap (encI .i64))),[3]⟩,⟨[1],0,3,some (50,.rd β4 x_17.1.length (x_17.1.flatMap (encI .i64))),[]⟩,⟨[6,15,16],0,3,some (51,.rd β4 y_22.length (y_22.flatMap (encI .i64))),[]⟩,⟨[17],0,3,some (2,.rd β4 y_22.length (y_22.flatMap (encI .i64))),[]⟩] [1,3,9] [[(1,⟨25,false,[.rd β1 a0.Points.length (a0.Points.flatMap encR45),.rd β2 a0.Before.length (a0.Before.flatMap encR93)]⟩)],[(3,⟨3,true,([] : List Int).flatMap (encI .i64)⟩),(1,⟨25,false,[.rd β1 a0.Points.length (a0.Points.flatMap encR45),.rd β2 a0.Before.length (a0.Before.flatMap encR93)]⟩)],[(3,⟨3,true,l3_19.flatMap (encI .i64)⟩),(1,⟨25,false,[.rd β1 a0.Points.length (a0.Points.flatMap encR45),.rd β2 a0.Before.length (a0.Before.flatMap encR93)]⟩)],[(1,⟨25,false,[.rd β1 a0.Points.length (a0.Points.flatMap encR45),.rd β2 a0.Before.length (a0.Before.flatMap encR93)]⟩)]] [[],[],[],[1,2],[],[],[4,5],[4,5,6],[4,5,6,7],[1,2,3,4,5,6,7,8],[],[0,1,2,3,4,5,6,7,8,9,10],[0,1,2,3,4,5,6,7,8,9,10,11]] (by kernel_rfl) (by kernel_rfl) (BornL.ok (.o<| .o<| .o<| .o<| .o<| .o<| .b rfl rfl<| .b rfl rfl<| .b rfl rfl<| .b rfl rfl<| .b rfl rfl<| .b rfl rfl<| .b rfl rfl<| .b rfl rfl<| .b rfl rfl<| .b rfl rfl<| .b rfl rfl<| .b rfl rfl<| .b rfl rfl<| .n)) (BaseL.ok (.o rfl<| .o rfl<| .o rfl<| .o rfl<| .o rfl<| .o rfl<| .b<| .b<| .b<| .b<| .b<| .b<| .b<| .b<| .b<| .b<| .b<| .b<| .b<| .n)) rfl (by decide) (allLt rfl) (.read rfl (.c (.put (fun E hE => .loadPA (lt1 rfl) (.tmp (hE.at (k := 0) rfl)) agg25 rfl rfl rfl rfl)) (.c (.put (fun E hE => .loadPA (lt1 rfl) (.tmp (hE.at (k := 0) rfl)) agg25 rfl rfl rfl rfl)) (.c (.put (fun E hE => .loadPA (lt1 rfl) (.tmp (hE.at (k := 0) rfl)) agg25 rfl rfl rfl rfl)) (.c (.put (fun E hE => .loadPA (lt1 rfl) (.tmp (hE.at (k := 0) rfl)) agg25 rfl rfl rfl rfl)) (.n)))))<| .turn rfl rfl rfl rfl rfl (.new (fun E hE => .buildSlice (t := 3) (out := ([] : List Int).flatMap (encI .i64)) (lt1 rfl) (nm rfl) (.nil) Try.underlying28 zero3 el3 (by decide) (by decide) rfl (still_all (encI_still .i64) _)) rfl)<| .pure rfl (fun H => .put (fun E hE => .move (lt1 rfl) (.tmp (hE.at (k := 0) rfl))))<| .turn rfl rfl rfl rfl rfl (.new (fun E hE => .app (enc := (encI .i64)) (lt1 rfl) (nm rfl) (.tmp (hE.at (k := 0) rfl)) (Src.rd (.tmp (hE.at (k := 1) rfl)) (flatMap_length (encI_len .i64) _) (one_all (encI_one .i64) _) (.inr (scal_all (encI_scal .i64) _))) Try.underlying28 ⟨_,Try.underlying28,by intro k hk; cases hk⟩ el3 rfl (encI_len .i64) rfl rfl (by decide) hl3_19) rfl)<| .pure rfl (fun H => .put (fun E hE => .move (lt1 rfl) (.tmp (hE.at (k := 0) rfl))))<| .pure rfl (fun H => .put (fun E hE => .move (lt1 rfl) (.tmp (hE.at (k := 0) rfl))))<| .pure rfl (fun H => .put (fun E hE => .indexRd (enc := (encI .i64)) (lt1 rfl) (.tmp (hE.at (k := 0) rfl)) (.tmp (hE.at (k := 1) rfl)) Try.underlying28 sz3 (encI_len .i64) rfl hy_20))<| .pure rfl (fun H => .put (fun E hE => .loadR (v := .sc (.int .i64 y_20)) (lt1 rfl) (.tmp (hE.at (k := 0) rfl)) one3 rfl))<| .pure rfl (fun H => .put (fun E hE => .frzAny (fun t ht => AStep.buildSlice (t := t) (out := ([y_20] : List Int).flatMap (encI .i64)) (lt1 rfl) ht (.cons (.tmp (hE.at (k := 0) rfl)) (by first | exact ⟨rfl,rfl⟩ | rfl) (.nil)) Try.underlying28 zero3 el3 (by decide) (by decide) rfl (still_all (encI_still .i64) _)) rfl (encI_len .i64)))<| .turn rfl rfl rfl rfl rfl (.appFrz (fun E hE => .app (enc := (encI .i64)) (lt1 rfl) (nm rfl) (.tmp (hE.at (k := 0) rfl)) (Src.rd (.tmp (hE.at (k := 1) rfl)) (flatMap_length (encI_len .i64) _) (one_all (encI_one .i64) _) (.inl rfl)) Try.underlying28 ⟨_,Try.underlying28,by intro k hk; cases hk⟩ el3 rfl (encI_len .i64) rfl rfl (by decide) hl3_21) rfl (encI_len .i64))<| .pure rfl (fun H => .put (fun E hE => .move (lt1 rfl) (.tmp (hE.at (k := 0) rfl))))<| .pure rfl (fun H => .put (fun E hE => .call0 (bw := false) (lt1 rfl) (ih (β1 := β1) (β2 := β2) (β3 := false) (β4 := β4) (R24.mk a0.Points a0.Before) l3_21 x_17.1 hy_22) (.cons (.tmp (hE.at (k := 0) rfl)) (.ren rfl) (.cons (.tmp (hE.at (k := 1) rfl)) (.ren rfl) (.cons (.tmp (hE.at (k := 2) rfl)) (.ren rfl) (.nil)))) rfl))<| .pure rfl (fun H => .put (fun E hE => .assign (lt1 rfl) (.tmp (hE.at (k := 0) rfl))))<| .nil _) (fun E hE => .c (DInv.at hE (k := 0) rfl rfl rfl)<| .c (DInv.at hE (k := 18) rfl rfl rfl)<| .c (DInv.at hE (k := 2) rfl rfl rfl)<| .c (DInv.at hE (k := 3) rfl rfl rfl)<| .c (DInv.at hE (k := 4) rfl rfl rfl)<| .n _) rfl ?_
        refine AWP.vc (s' := ⟨[(1,.rd β3 a1.length (a1.flatMap (encI .i64))),(2,.rd β4 y_22.length (y_22.flatMap (encI .i64))),(3,.ptr 1 0),(7,.rd false y_4.length (y_4.flatMap (encI .i64))),(8,.sc (.int .i64 x_17.2))],[(1,⟨25,false,[.rd β1 a0.Points.length (a0.Points.flatMap encR45),.rd β2 a0.Before.length (a0.Before.flatMap encR93)]⟩)]⟩) (VC.sub (.c rfl<| .c rfl<| .c rfl<| .c rfl<| .c rfl<| .n _) (.c rfl<| .n _)) ?_
        obtain ⟨t8_23,ht8_23,h⟩ := letS h
        refine AWP.region (.cons (.move (lt1 rfl) (.tmp rfl))<| .cons (.add (lt1 rfl) (.tmp rfl) (.const _ _ _))<| .cons (.assign (lt1 rfl) (.tmp rfl))<| ARun.nil _ _ _) ?_
        exact endJ (y_22,t8_23) h (by subst ht8_23; exact VC.sub (.c rfl<| .c rfl<| .c rfl<| .c rfl<| .c rfl<| .n _) (.c rfl<| .n _))
      · have h := iteF hc h
        refine AWP.exit ?_
        exact endJ x_17.1 h (VC.sub (.c rfl<| .n _) (.n _))
theorem c47 (n : Nat) {β1 : Bool} {β2 : Bool} {β3 : Bool} {β4 : Bool} (a0 : R24) (a1 : (List Int)) (a2 : (List Int)) {r : (List Int)} (h : m47 n a0 a1 a2 = some r) : Spec Try.prog 47 [] [.agg [.rd β1 a0.Points.length (a0.Points.flatMap encR45),.rd β2 a0.Before.length (a0.Before.flatMap encR93)],.rd β3 a1.length (a1.flatMap (encI .i64)),.rd β4 a2.length (a2.flatMap (encI .i64))] [] (.rd β4 r.length (r.flatMap (encI .i64))) [] := c47F n n a0 a1 a2 h
theorem c16 {β1 : Bool} {β2 : Bool} (n : Nat) (a0 : R24) {r : ((List Int) × Int × Int)} (h : m16 n a0 = some r) : Spec Try.prog 16 [] [.agg [.rd β1 a0.Points.length (a0.Points.flatMap encR45),.rd β2 a0.Before.length (a0.Before.flatMap encR93)]] [] (.tup [.rd false r.1.length (r.1.flatMap (encI .i64)),.sc (.int .i64 r.2.1),.sc (.int .i64 r.2.2)]) [] := by
  refine Spec.of (fn := Try.f16) Try.func16 Try.ntmps16 rfl rfl (le1 rfl) (fun w0 Zs Zb T0 ι0 => ?_)
  unfold m16 at h
  refine AWP.seq ?_
  refine AWP.region (.cons (.box (t := 1) (n := 2) (lt1 rfl) (nm rfl) (.tmp rfl) (by first | exact ⟨rfl,rfl⟩ | rfl) rfl)<| .cons (.assign (lt1 rfl) (.const _ _ _))<| .cons (.assign (lt1 rfl) (.const _ _ _))<| .cons (.assign (lt1 rfl) (.const _ _ _))<| ARun.nil _ _ _) ?_
  refine AWP.vc (s' := ⟨[(1,.ptr 1 0)],[(1,⟨25,false,[.rd β1 a0.Points.length (a0.Points.flatMap encR45),.rd β2 a0.Before.length (a0.Before.flatMap encR93)]⟩)]⟩) (VC.sub (.c rfl<| .n _) (.c rfl<| .n _)) ?_
  refine AWP.seq ?_
  refine AWP.block ?_
  refine AWP.seq ?_
  obtain ⟨y_1,hy_1,h⟩ := bindS h
  refine AWP.region (.cons (.loadPA (lt1 rfl) (.tmp rfl) agg25 rfl rfl rfl rfl)<| .cons (.call0 (bw := false) (lt1 rfl) (c15 (β1 := β1) (β2 := β2) n (R24.mk a0.Points a0.Before) hy_1) (.cons (.tmp rfl) (.ren rfl) (.nil)) rfl)<| .cons (.not (lt1 rfl) (.tmp rfl))<| .cons (.assign (lt1 rfl) (.tmp rfl))<| ARun.nil _ _ _) ?_
  refine AWP.vc (s' := ⟨[(1,.ptr 1 0),(6,.sc (.bool (!y_1)))],[(1,⟨25,false,[.rd β1 a0.Points.length (a0.Points.flatMap encR45),.rd β2 a0.Before.length (a0.Before.flatMap encR93)]⟩)]⟩) (VC.sub (.c rfl<| .c rfl<| .n _) (.c rfl<| .n _)) ?_
  refine AWP.cond (.tmp rfl) (fun hc => ?_) (fun hc => ?_)
  · have h := iteT hc h
    refine AWP.seq ?_
    refine AWP.region (.cons (.assign (lt1 rfl) (.const _ _ _))<| .cons (.assign (lt1 rfl) (.const _ _ _))<| .cons (.assign (lt1 rfl) (.const _ _ _))<| ARun.nil _ _ _) ?_
    refine AWP.ret ?_
    obtain rfl := Option.some.inj h
    refine retJ (Res.vc (s' := ⟨[(2,.rd false ([] : List Int).length (([] : List Int).flatMap (encI .i64))),(3,.sc (.int .i64 (0 : Int))),(4,.sc (.int .i64 (1 : Int)))],[]⟩) (VC.trans (VC.nilRd (d := 2) false rfl) (VC.sub (.c rfl<| .c rfl<| .c rfl<| .n _) (.n _))) ?_)
    refine Res.drop (H := []) rfl ?_
    exact Res.of rfl (.cons (.tmp rfl) (.cons (.tmp rfl) (.cons (.tmp rfl) (.nil)))) rfl rfl
  · have h := iteF hc h
    refine AWP.seq ?_
    refine AWP.region (.cons (.fieldP (lt1 rfl) (.tmp rfl) fld25_0)<| .cons (.loadP (lt1 rfl) (.tmp rfl) one22 rfl rfl rfl)<| .cons (.lenRd (lt1 rfl) (.tmp rfl) Try.underlying22)<| .cons (.gtr (lt1 rfl) (.tmp rfl) (.const _ _ _))<| .cons (.assign (lt1 rfl) (.tmp rfl))<| ARun.nil _ _ _) ?_
    refine AWP.vc (s' := ⟨[(1,.ptr 1 0),(10,.sc (.bool (decide ((8 : Int) < (a0.Points.length : Int)))))],[(1,⟨25,false,[.rd β1 a0.Points.length (a0.Points.flatMap encR45),.rd β2 a0.Before.length (a0.Before.flatMap encR93)]⟩)]⟩) (VC.sub (.c rfl<| .c rfl<| .n _) (.c rfl<| .n _)) ?_
    refine AWP.cond (.tmp rfl) (fun hc => ?_) (fun hc => ?_)
    · have h := iteT hc h
      refine AWP.seq ?_
      refine AWP.region (.cons (.assign (lt1 rfl) (.const _ _ _))<| .cons (.assign (lt1 rfl) (.const _ _ _))<| .cons (.assign (lt1 rfl) (.const _ _ _))<| ARun.nil _ _ _) ?_
      refine AWP.ret ?_
      obtain rfl := Option.some.inj h
      refine retJ (Res.vc (s' := ⟨[(2,.rd false ([] : List Int).length (([] : List Int).flatMap (encI .i64))),(3,.sc (.int .i64 (0 : Int))),(4,.sc (.int .i64 (9 : Int)))],[]⟩) (VC.trans (VC.nilRd (d := 2) false rfl) (VC.sub (.c rfl<| .c rfl<| .c rfl<| .n _) (.n _))) ?_)
      refine Res.drop (H := []) rfl ?_
      exact Res.of rfl (.cons (.tmp rfl) (.cons (.tmp rfl) (.cons (.tmp rfl) (.nil)))) rfl rfl
    · have h := iteF hc h
      refine AWP.skip ?_
      refine AWP.seq ?_
      obtain ⟨y_2,hy_2,h⟩ := bindS h
      refine AWP.region (.cons (.loadPA (lt1 rfl) (.tmp rfl) agg25 rfl rfl rfl rfl)<| .cons (.buildSlice (t := 2) (out := ([(0 : Int)] : List Int).flatMap (encI .i64)) (lt1 rfl) (nm rfl) (.cons (.const _ _ _) (by first | exact ⟨rfl,rfl⟩ | rfl) (.nil)) Try.underlying28 zero3 el3 (by decide) (by decide) rfl (still_all (encI_still .i64) _))<| .vc (VC.frz (d := 16) (t := 2) rfl rfl (encI_len .i64))<| .cons (.call0 (bw := false) (lt1 rfl) (c47 (β1 := β1) (β2 := β2) (β3 := false) (β4 := false) n (R24.mk a0.Points a0.Before) ([(0 : Int)] : List Int) ([] : List Int) hy_2) (.cons (.tmp rfl) (.ren rfl) (.cons (.tmp rfl) (.ren rfl) (.cons (.const _ _ _) (.nil) (.nil)))) rfl)<| .cons (.assign (lt1 rfl) (.tmp rfl))<| ARun.nil _ _ _) ?_
      refine AWP.vc (s' := ⟨[(1,.ptr 1 0),(5,.rd false y_2.length (y_2.flatMap (encI .i64)))],[(1,⟨25,false,[.rd β1 a0.Points.length (a0.Points.flatMap encR45),.rd β2 a0.Before.length (a0.Before.flatMap encR93)]⟩)]⟩) (VC.sub (.c rfl<| .c rfl<| .n _) (.c rfl<| .n _)) ?_
      refine AWP.seq ?_
      obtain ⟨y_3,hy_3,h⟩ := bindS h
      refine AWP.region (.cons (.move (lt1 rfl) (.tmp rfl))<| .cons (.loadPA (lt1 rfl) (.tmp rfl) agg25 rfl rfl rfl rfl)<| .cons (.move (lt1 rfl) (.tmp rfl))<| .cons (.call0 (bw := false) (lt1 rfl) (c20 (β1 := β1) (β2 := β2) (β3 := false) n (R24.mk a0.Points a0.Before) y_2 hy_3) (.cons (.tmp rfl) (.ren rfl) (.cons (.tmp rfl) (.ren rfl) (.nil))) rfl)<| .cons (.assign (lt1 rfl) (.tmp rfl))<| .cons (.assign (lt1 rfl) (.tmp rfl))<| .cons (.assign (lt1 rfl) (.const _ _ _))<| ARun.nil _ _ _) ?_
      refine AWP.ret ?_
      obtain rfl := Option.some.inj h
      refine retJ (Res.vc (s' := ⟨[(2,.rd false y_2.length (y_2.flatMap (encI .i64))),(3,.sc (.int .i64 y_3)),(4,.sc (.int .i64 (0 : Int)))],[]⟩) (VC.sub (.c rfl<| .c rfl<| .c rfl<| .n _) (.n _)) ?_)
      refine Res.drop (H := []) rfl ?_
      exact Res.of rfl (.cons (.tmp rfl) (.cons (.tmp rfl) (.cons (.tmp rfl) (.nil)))) rfl rfl
theorem c3 {β1 : Bool} {β2 : Bool} (n : Nat) (a0 : R24) {r : Bool} (h : m3 n a0 = some r) : Spec Try.prog 3 [] [.agg [.rd β1 a0.Points.length (a0.Points.flatMap encR45),.rd β2 a0.Before.length (a0.Before.flatMap encR93)]] [] (.sc (.bool r)) [] := by
  refine Spec.of (fn := Try.f3) Try.func3 Try.ntmps3 rfl rfl (le1 rfl) (fun w0 Zs Zb T0 ι0 => ?_)
  unfold m3 at h
  refine AWP.seq ?_
  refine AWP.region (.cons (.box (t := 1) (n := 2) (lt1 rfl) (nm rfl) (.tmp rfl) (by first | exact ⟨rfl,rfl⟩ | rfl) rfl)<| .cons (.assign (lt1 rfl) (.const _ _ _))<| ARun.nil _ _ _) ?_
  refine AWP.vc (s' := ⟨[(1,.ptr 1 0)],[(1,⟨25,false,[.rd β1 a0.Points.length (a0.Points.flatMap encR45),.rd β2 a0.Before.length (a0.Before.flatMap encR93)]⟩)]⟩) (VC.sub (.c rfl<| .n _) (.c rfl<| .n _)) ?_
  refine AWP.seq ?_
  refine AWP.seq ?_
  obtain ⟨y_1,hy_1,h⟩ := bindS h
  obtain ⟨y_2,hy_2,h⟩ := bindS h
  refine AWP.region (.cons (.call0 (bw := false) (lt1 rfl) (c11 n hy_1) (.nil) rfl)<| .cons (.not (lt1 rfl) (.tmp rfl))<| .cons (.move (lt1 rfl) (.tmp rfl))<| .guard (j := 2) (dj := 11) rfl (lt1 rfl) rfl (lt1 rfl) (fun hg => .loadPA (lt1 rfl) (.tmp rfl) agg25 rfl rfl rfl rfl)<| .guard (j := 2) (dj := 11) rfl (lt1 rfl) rfl (lt1 rfl) (fun hg => .call0 (bw := false) (lt1 rfl) (c12 (β1 := β1) (β2 := β2) n (R24.mk a0.Points a0.Before) (gdB hy_2 hg)) (.cons (.gd hg (.tmp rfl)) (.ren rfl) (.nil)) rfl)<| .guard (j := 2) (dj := 11) rfl (lt1 rfl) rfl (lt1 rfl) (fun hg => .not (lt1 rfl) (.gd hg (.tmp rfl)))<| .cons (.pickOr (lt1 rfl) (.tmp rfl) (.const _ _ _) (.tmp rfl))<| ARun.nil _ _ _) ?_
  refine AWP.vc (s' := ⟨[(1,.ptr 1 0),(15,.sc (.bool ((!y_1) || (!y_2))))],[(1,⟨25,false,[.rd β1 a0.Points.length (a0.Points.flatMap encR45),.rd β2 a0.Before.length (a0.Before.flatMap encR93)]⟩)]⟩) (VC.sub (.c rfl<| .c rfl<| .n _) (.c rfl<| .n _)) ?_
  refine AWP.cond (.tmp rfl) (fun hc => ?_) (fun hc => ?_)
  · have h := iteT hc h
    refine AWP.seq ?_
    obtain ⟨y_3,hy_3,h⟩ := bindS h
    refine AWP.region (.cons (.call0 (bw := false) (lt1 rfl) (c11 n hy_3) (.nil) rfl)<| .cons (.assign (lt1 rfl) (.tmp rfl))<| ARun.nil _ _ _) ?_
    refine AWP.ret ?_
    obtain rfl := Option.some.inj h
    refine retJ (Res.vc (s' := ⟨[(2,.sc (.bool y_3))],[]⟩) (VC.sub (.c rfl<| .n _) (.n _)) ?_)
    refine Res.drop (H := []) rfl ?_
    exact Res.of rfl (.cons (.tmp rfl) (.nil)) rfl rfl
  · have h := iteF hc h
    refine AWP.skip ?_
    refine AWP.seq ?_
    obtain ⟨y_4,hy_4,h⟩ := bindS h
    obtain ⟨y_5,hy_5,h⟩ := bindS h
    refine AWP.region (.cons (.loadPA (lt1 rfl) (.tmp rfl) agg25 rfl rfl rfl rfl)<| .cons (.call0 (bw := false) (lt1 rfl) (c14 (β1 := β1) (β2 := β2) n (R24.mk a0.Points a0.Before) hy_4) (.cons (.tmp rfl) (.ren rfl) (.nil)) rfl)<| .cons (.call0 (bw := false) (lt1 rfl) (c13 (β1 := β1) (β2 := β2) n (R24.mk y_4.Points y_4.Before) hy_5) (.cons (.tmp rfl) (.ren rfl) (.nil)) rfl)<| .cons (.move (lt1 rfl) (.tmp rfl))<| .cons (.extract (lt1 rfl) (.tmp rfl) rfl)<| .cons (.extract (lt1 rfl) (.tmp rfl) rfl)<| .cons (.extract (lt1 rfl) (.tmp rfl) rfl)<| .cons (.assign (lt1 rfl) (.tmp rfl))<| .cons (.assign (lt1 rfl) (.tmp rfl))<| .cons (.assign (lt1 rfl) (.tmp rfl))<| ARun.nil _ _ _) ?_
    refine AWP.vc (s' := ⟨[(1,.ptr 1 0),(3,.rd false y_5.1.length (y_5.1.flatMap (encI .i64))),(4,.sc (.int .i64 y_5.2.1)),(5,.sc (.int .i64 y_5.2.2))],[(1,⟨25,false,[.rd β1 a0.Points.length (a0.Points.flatMap encR45),.rd β2 a0.Before.length (a0.Before.flatMap encR93)]⟩)]⟩) (VC.sub (.c rfl<| .c rfl<| .c rfl<| .c rfl<| .n _) (.c rfl<| .n _)) ?_
    refine AWP.seq ?_
    refine AWP.seq ?_
    refine AWP.region (.cons (.fieldP (lt1 rfl) (.tmp rfl) fld25_0)<| .cons (.loadP (lt1 rfl) (.tmp rfl) one22 rfl rfl rfl)<| .cons (.lenRd (lt1 rfl) (.tmp rfl) Try.underlying22)<| .cons (.gtr (lt1 rfl) (.tmp rfl) (.const _ _ _))<| ARun.nil _ _ _) ?_
    refine AWP.vc (s' := ⟨[(1,.ptr 1 0),(3,.rd false y_5.1.length (y_5.1.flatMap (encI .i64))),(4,.sc (.int .i64 y_5.2.1)),(5,.sc (.int .i64 y_5.2.2)),(27,.sc (.bool (decide ((6 : Int) < (a0.Points.length : Int)))))],[(1,⟨25,false,[.rd β1 a0.Points.length (a0.Points.flatMap encR45),.rd β2 a0.Before.length (a0.Before.flatMap encR93)]⟩)]⟩) (VC.sub (.c rfl<| .c rfl<| .c rfl<| .c rfl<| .c rfl<| .n _) (.c rfl<| .n _)) ?_
    refine AWP.cond (.tmp rfl) (fun hc => ?_) (fun hc => ?_)
    · have h := iteT hc h
      refine AWP.seq ?_
      obtain ⟨y_6,hy_6,h⟩ := bindS h
      refine AWP.region (.cons (.fieldP (lt1 rfl) (.tmp rfl) fld25_0)<| .cons (.loadP (lt1 rfl) (.tmp rfl) one22 rfl rfl rfl)<| .cons (.lenRd (lt1 rfl) (.tmp rfl) Try.underlying22)<| .cons (.leq (lt1 rfl) (.tmp rfl) (.const _ _ _))<| .cons (.move (lt1 rfl) (.tmp rfl))<| .guard (j := 4) (dj := 32) rfl (lt1 rfl) rfl (lt1 rfl) (fun hg => .move (lt1 rfl) (.tmp rfl))<| .guard (j := 4) (dj := 32) rfl (lt1 rfl) rfl (lt1 rfl) (fun hg => .eql (lt1 rfl) (.gd hg (.tmp rfl)) (.const _ _ _))<| .cons (.pickOr (lt1 rfl) (.tmp rfl) (.const _ _ _) (.tmp rfl))<| .cons (.move (lt1 rfl) (.tmp rfl))<| .guard (j := 8) (dj := 36) rfl (lt1 rfl) rfl (lt1 rfl) (fun hg => .move (lt1 rfl) (.tmp rfl))<| .guard (j := 8) (dj := 36) rfl (lt1 rfl) rfl (lt1 rfl) (fun hg => .eql (lt1 rfl) (.gd hg (.tmp rfl)) (.const _ _ _))<| .guard (j := 8) (dj := 36) rfl (lt1 rfl) rfl (lt1 rfl) (fun hg => .move (lt1 rfl) (.gd hg (.tmp rfl)))<| .guard2 (j := 11) (dj := 39) rfl (lt1 rfl) rfl (lt1 rfl) (fun hg => .loadPA (lt1 rfl) (.tmp rfl) agg25 rfl rfl rfl rfl)<| .guard2 (j := 11) (dj := 39) rfl (lt1 rfl) rfl (lt1 rfl) (fun hg => .call0 (bw := false) (lt1 rfl) (c15 (β1 := β1) (β2 := β2) n (R24.mk a0.Points a0.Before) (gdB hy_6 hg)) (.cons (.gd hg (.tmp rfl)) (.ren rfl) (.nil)) rfl)<| .guard2 (j := 11) (dj := 39) rfl (lt1 rfl) rfl (lt1 rfl) (fun hg => .not (lt1 rfl) (.gd hg (.tmp rfl)))<| .guard (j := 8) (dj := 36) rfl (lt1 rfl) rfl (lt1 rfl) (fun hg => .pickAnd (lt1 rfl) (.gd hg (.tmp rfl)) (.gdAnd hg (.tmp rfl)) (.const _ _ _))<| .cons (.pickOr (lt1 rfl) (.tmp rfl) (.const _ _ _) (.tmp rfl))<| .cons (.assign (lt1 rfl) (.tmp rfl))<| ARun.nil _ _ _) ?_
      refine AWP.ret ?_
      obtain rfl := Option.some.inj h
      refine retJ (Res.vc (s' := ⟨[(2,.sc (.bool (((decide ((a0.Points.length : Int) ≤ (8 : Int))) || (decide (y_5.2.2 = (9 : Int)))) || ((decide (y_5.2.2 = (1 : Int))) && (!y_6)))))],[]⟩) (VC.sub (.c rfl<| .n _) (.n _)) ?_)
      refine Res.drop (H := []) rfl ?_
      exact Res.of rfl (.cons (.tmp rfl) (.nil)) rfl rfl
    · have h := iteF hc h
      refine AWP.skip ?_
      refine AWP.seq ?_
      obtain ⟨y_7,hy_7,h⟩ := bindS h
      refine AWP.region (.cons (.loadPA (lt1 rfl) (.tmp rfl) agg25 rfl rfl rfl rfl)<| .cons (.call0 (bw := false) (lt1 rfl) (c16 (β1 := β1) (β2 := β2) n (R24.mk a0.Points a0.Before) hy_7) (.cons (.tmp rfl) (.ren rfl) (.nil)) rfl)<| .cons (.move (lt1 rfl) (.tmp rfl))<| .cons (.extract (lt1 rfl) (.tmp rfl) rfl)<| .cons (.extract (lt1 rfl) (.tmp rfl) rfl)<| .cons (.extract (lt1 rfl) (.tmp rfl) rfl)<| .cons (.assign (lt1 rfl) (.tmp rfl))<| .cons (.assign (lt1 rfl) (.tmp rfl))<| .cons (.assign (lt1 rfl) (.tmp rfl))<| ARun.nil _ _ _) ?_
      refine AWP.vc (s' := ⟨[(3,.rd false y_5.1.length (y_5.1.flatMap (encI .i64))),(4,.sc (.int .i64 y_5.2.1)),(5,.sc (.int .i64 y_5.2.2)),(6,.rd false y_7.1.length (y_7.1.flatMap (encI .i64))),(7,.sc (.int .i64 y_7.2.1)),(8,.sc (.int .i64 y_7.2.2))],[]⟩) (VC.sub (.c rfl<| .c rfl<| .c rfl<| .c rfl<| .c rfl<| .c rfl<| .n _) (.n _)) ?_
      refine AWP.seq ?_
      obtain ⟨y_8,hy_8,h⟩ := bindS h
      refine AWP.region (.cons (.move (lt1 rfl) (.tmp rfl))<| .cons (.move (lt1 rfl) (.tmp rfl))<| .cons (.call0 (bw := false) (lt1 rfl) (c17 (β1 := false) (β2 := false) n y_5.1 y_7.1 hy_8) (.cons (.tmp rfl) (.ren rfl) (.cons (.tmp rfl) (.ren rfl) (.nil))) rfl)<| .cons (.move (lt1 rfl) (.tmp rfl))<| .guard (j := 3) (dj := 54) rfl (lt1 rfl) rfl (lt1 rfl) (fun hg => .move (lt1 rfl) (.tmp rfl))<| .guard (j := 3) (dj := 54) rfl (lt1 rfl) rfl (lt1 rfl) (fun hg => .move (lt1 rfl) (.tmp rfl))<| .guard (j := 3) (dj := 54) rfl (lt1 rfl) rfl (lt1 rfl) (fun hg => .eql (lt1 rfl) (.gd hg (.tmp rfl)) (.gd hg (.tmp rfl)))<| .cons (.pickAnd (lt1 rfl) (.tmp rfl) (.tmp rfl) (.const _ _ _))<| .cons (.move (lt1 rfl) (.tmp rfl))<| .guard (j := 8) (dj := 59) rfl (lt1 rfl) rfl (lt1 rfl) (fun hg => .move (lt1 rfl) (.tmp rfl))<| .guard (j := 8) (dj := 59) rfl (lt1 rfl) rfl (lt1 rfl) (fun hg => .move (lt1 rfl) (.tmp rfl))<| .guard (j := 8) (dj := 59) rfl (lt1 rfl) rfl (lt1 rfl) (fun hg => .eql (lt1 rfl) (.gd hg (.tmp rfl)) (.gd hg (.tmp rfl)))<| .cons (.pickAnd (lt1 rfl) (.tmp rfl) (.tmp rfl) (.const _ _ _))<| .cons (.assign (lt1 rfl) (.tmp rfl))<| ARun.nil _ _ _) ?_
      refine AWP.ret ?_
      obtain rfl := Option.some.inj h
      refine retJ (Res.vc (s' := ⟨[(2,.sc (.bool ((y_8 && (decide (y_5.2.1 = y_7.2.1))) && (decide (y_5.2.2 = y_7.2.2)))))],[]⟩) (VC.sub (.c rfl<| .n _) (.n _)) ?_)
      refine Res.drop (H := []) rfl ?_
      exact Res.of rfl (.cons (.tmp rfl) (.nil)) rfl rfl
end Go.AB
