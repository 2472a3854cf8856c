import Derived.Test.YtnmglighdhaccaaProg
import Derived.Test.YtnmglighdhaccaaF5a
import Derived.KernelRfl
set_option linter.unusedVariables false
set_option maxRecDepth 20000
namespace Go.AB
open Go Go.Proofs
theorem c15 {β1 : Bool} {β2 : Bool} (n : Nat) (a0 : (List Int)) (a1 : (List Int)) {r : Bool} (h : m15 n a0 a1 = some r) : Spec Try.prog 15 [] [.rd β1 a0.length (a0.flatMap (encI .i64)),.rd β2 a1.length (a1.flatMap (encI .i64))] [] (.sc (.bool r)) [] := by
  refine Spec.of (fn := Try.f15) Try.func15 Try.ntmps15 rfl rfl (le1 rfl) (fun w0 Zs Zb T0 ι0 => ?_)
  unfold m15 at h
  refine AWP.seq ?_
  refine AWP.region (.cons (.assign (lt1 rfl) (.const _ _ _))<| ARun.nil _ _ _) ?_
  refine AWP.vc (s' := ⟨[(0,.rd β1 a0.length (a0.flatMap (encI .i64))),(1,.rd β2 a1.length (a1.flatMap (encI .i64)))],[]⟩) (VC.sub (.c rfl<| .c rfl<| .n _) (.n _)) ?_
  refine AWP.seq ?_
  refine AWP.seq ?_
  refine AWP.region (.cons (.assign (lt1 rfl) (.const _ _ _))<| ARun.nil _ _ _) ?_
  refine AWP.vc (s' := ⟨[(0,.rd β1 a0.length (a0.flatMap (encI .i64))),(1,.rd β2 a1.length (a1.flatMap (encI .i64))),(5,.sc (.int .i64 (0 : Int)))],[]⟩) (VC.sub (.c rfl<| .c rfl<| .c rfl<| .n _) (.n _)) ?_
  refine AWP.joinB' (S := fun p_14 : Unit => ⟨[(0,.rd β1 a0.length (a0.flatMap (encI .i64))),(1,.rd β2 a1.length (a1.flatMap (encI .i64)))],[]⟩) h (fun p_14 h => ?_) (fun k_15 h => ?_)
  · refine AWP.seq ?_
    refine AWP.region (.cons (.move (lt1 rfl) (.tmp rfl))<| .cons (.lenRd (lt1 rfl) (.tmp rfl) Try.underlying22)<| .cons (.move (lt1 rfl) (.tmp rfl))<| .cons (.lenRd (lt1 rfl) (.tmp rfl) Try.underlying22)<| .cons (.gtr (lt1 rfl) (.tmp rfl) (.tmp rfl))<| .cons (.assign (lt1 rfl) (.tmp rfl))<| ARun.nil _ _ _) ?_
    refine AWP.ret ?_
    obtain rfl := Option.some.inj h
    refine retJ (Res.vc (s' := ⟨[(4,.sc (.bool (decide ((a1.length : Int) < (a0.length : Int)))))],[]⟩) (VC.sub (.c rfl<| .n _) (.n _)) ?_)
    refine Res.drop (H := []) rfl ?_
    exact Res.of rfl (.cons (.tmp rfl) (.nil)) rfl rfl
  · refine AWP.vc (s' := ⟨[(0,.rd β1 a0.length (a0.flatMap (encI .i64))),(1,.rd β2 a1.length (a1.flatMap (encI .i64))),(5,.sc (.int .i64 (0 : Int)))],[]⟩) (VC.sub (.c rfl<| .c rfl<| .c rfl<| .n _) (.n _)) ?_
    refine AWP.loopM (S := fun x_7 : Int => ⟨[(0,.rd β1 a0.length (a0.flatMap (encI .i64))),(1,.rd β2 a1.length (a1.flatMap (encI .i64))),(5,.sc (.int .i64 x_7))],[]⟩) (x := (0 : Int)) (fun nx_8 x_7 h => ?_) h
    unfold m15_L1 at h
    refine AWP.seq ?_
    refine AWP.seq ?_
    refine AWP.region (.cons (.move (lt1 rfl) (.tmp rfl))<| .cons (.move (lt1 rfl) (.tmp rfl))<| .cons (.lenRd (lt1 rfl) (.tmp rfl) Try.underlying22)<| .cons (.lss (lt1 rfl) (.tmp rfl) (.tmp rfl))<| .cons (.move (lt1 rfl) (.tmp rfl))<| .guard (j := 4) (dj := 10) rfl (lt1 rfl) rfl (lt1 rfl) (fun hg => .move (lt1 rfl) (.tmp rfl))<| .guard (j := 4) (dj := 10) rfl (lt1 rfl) rfl (lt1 rfl) (fun hg => .move (lt1 rfl) (.tmp rfl))<| .guard (j := 4) (dj := 10) rfl (lt1 rfl) rfl (lt1 rfl) (fun hg => .lenRd (lt1 rfl) (.gd hg (.tmp rfl)) Try.underlying22)<| .guard (j := 4) (dj := 10) rfl (lt1 rfl) rfl (lt1 rfl) (fun hg => .lss (lt1 rfl) (.gd hg (.tmp rfl)) (.gd hg (.tmp rfl)))<| .cons (.pickAnd (lt1 rfl) (.tmp rfl) (.tmp rfl) (.const _ _ _))<| ARun.nil _ _ _) ?_
    refine AWP.vc (s' := ⟨[(0,.rd β1 a0.length (a0.flatMap (encI .i64))),(1,.rd β2 a1.length (a1.flatMap (encI .i64))),(5,.sc (.int .i64 x_7)),(15,.sc (.bool ((decide (x_7 < (a0.length : Int))) && (decide (x_7 < (a1.length : Int))))))],[]⟩) (VC.sub (.c rfl<| .c rfl<| .c rfl<| .c rfl<| .n _) (.n _)) ?_
    refine AWP.cond (.tmp rfl) (fun hc => ?_) (fun hc => ?_)
    · have h := iteT hc h
      refine AWP.skip ?_
      refine AWP.seq ?_
      refine AWP.block ?_
      refine AWP.seq ?_
      obtain ⟨y_9,hy_9,h⟩ := bindS h
      obtain ⟨y_10,hy_10,h⟩ := bindS h
      refine AWP.draw (s' := ⟨[(0,.rd β1 a0.length (a0.flatMap (encI .i64))),(1,.rd β2 a1.length (a1.flatMap (encI .i64))),(5,.sc (.int .i64 x_7)),(26,.sc (.bool (!decide (y_9 = y_10))))],[]⟩) mixed [⟨0,.rd β1 a0.length (a0.flatMap (encI .i64)),none,[]⟩,⟨1,.rd β2 a1.length (a1.flatMap (encI .i64)),none,[]⟩,⟨5,.sc (.int .i64 x_7),none,[]⟩,⟨15,.sc (.bool ((decide (x_7 < (a0.length : Int))) && (decide (x_7 < (a1.length : Int))))),none,[]⟩,⟨18,.rd β1 a0.length (a0.flatMap (encI .i64)),some 0,[]⟩,⟨19,.sc (.int .i64 x_7),some 1,[]⟩,⟨20,.rptr β1 [.sc (.int .i64 y_9)],some 2,[]⟩,⟨21,.sc (.int .i64 y_9),some 3,[]⟩,⟨22,.rd β2 a1.length (a1.flatMap (encI .i64)),some 4,[]⟩,⟨23,.sc (.int .i64 x_7),some 5,[]⟩,⟨24,.rptr β2 [.sc (.int .i64 y_10)],some 6,[]⟩,⟨25,.sc (.int .i64 y_10),some 7,[]⟩,⟨26,.sc (.bool (!decide (y_9 = y_10))),some 8,[]⟩] [⟨[0],0,0,some (18,.rd β1 a0.length (a0.flatMap (encI .i64))),[]⟩,⟨[2],0,0,some (19,.sc (.int .i64 x_7)),[]⟩,⟨[4,5],0,0,some (20,.rptr β1 [.sc (.int .i64 y_9)]),[]⟩,⟨[6],0,0,some (21,.sc (.int .i64 y_9)),[]⟩,⟨[1],0,0,some (22,.rd β2 a1.length (a1.flatMap (encI .i64))),[]⟩,⟨[2],0,0,some (23,.sc (.int .i64 x_7)),[]⟩,⟨[8,9],0,0,some (24,.rptr β2 [.sc (.int .i64 y_10)]),[]⟩,⟨[10],0,0,some (25,.sc (.int .i64 y_10)),[]⟩,⟨[7,11],0,0,some (26,.sc (.bool (!decide (y_9 = y_10)))),[]⟩] [] [[]] [[],[],[0,1],[0,1,2],[],[],[4,5],[4,5,6],[0,1,2,3,4,5,6,7]] (by kernel_rfl) (by kernel_rfl) (BornL.ok (.o<| .o<| .o<| .o<| .b rfl rfl<| .b rfl rfl<| .b rfl rfl<| .b rfl rfl<| .b rfl rfl<| .b rfl rfl<| .b rfl rfl<| .b rfl rfl<| .b rfl rfl<| .n)) (BaseL.ok (.o rfl<| .o rfl<| .o rfl<| .o rfl<| .b<| .b<| .b<| .b<| .b<| .b<| .b<| .b<| .b<| .n)) rfl (by decide) (allLt rfl) (.pure rfl (fun H => .put (fun E hE => .move (lt1 rfl) (.tmp (hE.at (k := 0) rfl))))<| .pure rfl (fun H => .put (fun E hE => .move (lt1 rfl) (.tmp (hE.at (k := 0) rfl))))<| .pure rfl (fun H => .put (fun E hE => .indexRd (enc := (encI .i64)) (lt1 rfl) (.tmp (hE.at (k := 0) rfl)) (.tmp (hE.at (k := 1) rfl)) Try.underlying22 sz3 (encI_len .i64) rfl hy_9))<| .pure rfl (fun H => .put (fun E hE => .loadR (v := .sc (.int .i64 y_9)) (lt1 rfl) (.tmp (hE.at (k := 0) rfl)) one3 rfl))<| .pure rfl (fun H => .put (fun E hE => .move (lt1 rfl) (.tmp (hE.at (k := 0) rfl))))<| .pure rfl (fun H => .put (fun E hE => .move (lt1 rfl) (.tmp (hE.at (k := 0) rfl))))<| .pure rfl (fun H => .put (fun E hE => .indexRd (enc := (encI .i64)) (lt1 rfl) (.tmp (hE.at (k := 0) rfl)) (.tmp (hE.at (k := 1) rfl)) Try.underlying22 sz3 (encI_len .i64) rfl hy_10))<| .pure rfl (fun H => .put (fun E hE => .loadR (v := .sc (.int .i64 y_10)) (lt1 rfl) (.tmp (hE.at (k := 0) rfl)) one3 rfl))<| .pure rfl (fun H => .put (fun E hE => .neq (lt1 rfl) (.tmp (hE.at (k := 0) rfl)) (.tmp (hE.at (k := 1) rfl))))<| .nil _) (fun E hE => .c (DInv.at hE (k := 0) rfl rfl rfl)<| .c (DInv.at hE (k := 1) rfl rfl rfl)<| .c (DInv.at hE (k := 2) rfl rfl rfl)<| .c (DInv.at hE (k := 12) rfl rfl rfl)<| .n _) rfl ?_
      refine AWP.vc (s' := ⟨[(0,.rd β1 a0.length (a0.flatMap (encI .i64))),(1,.rd β2 a1.length (a1.flatMap (encI .i64))),(5,.sc (.int .i64 x_7)),(26,.sc (.bool (!decide (y_9 = y_10))))],[]⟩) (VC.sub (.c rfl<| .c rfl<| .c rfl<| .c rfl<| .n _) (.n _)) ?_
      refine AWP.cond (.tmp rfl) (fun hc => ?_) (fun hc => ?_)
      · have h := iteT hc h
        refine AWP.seq ?_
        obtain ⟨y_11,hy_11,h⟩ := bindS h
        obtain ⟨y_12,hy_12,h⟩ := bindS h
        refine AWP.draw (s' := ⟨[(4,.sc (.bool (decide (y_12 < y_11))))],[]⟩) mixed [⟨0,.rd β1 a0.length (a0.flatMap (encI .i64)),none,[]⟩,⟨1,.rd β2 a1.length (a1.flatMap (encI .i64)),none,[]⟩,⟨5,.sc (.int .i64 x_7),none,[]⟩,⟨26,.sc (.bool (!decide (y_9 = y_10))),none,[]⟩,⟨27,.rd β1 a0.length (a0.flatMap (encI .i64)),some 0,[]⟩,⟨28,.sc (.int .i64 x_7),some 1,[]⟩,⟨29,.rptr β1 [.sc (.int .i64 y_11)],some 2,[]⟩,⟨30,.sc (.int .i64 y_11),some 3,[]⟩,⟨31,.rd β2 a1.length (a1.flatMap (encI .i64)),some 4,[]⟩,⟨32,.sc (.int .i64 x_7),some 5,[]⟩,⟨33,.rptr β2 [.sc (.int .i64 y_12)],some 6,[]⟩,⟨34,.sc (.int .i64 y_12),some 7,[]⟩,⟨35,.sc (.bool (decide (y_12 < y_11))),some 8,[]⟩,⟨4,.sc (.bool (decide (y_12 < y_11))),some 9,[]⟩] [⟨[0],0,0,some (27,.rd β1 a0.length (a0.flatMap (encI .i64))),[]⟩,⟨[2],0,0,some (28,.sc (.int .i64 x_7)),[]⟩,⟨[4,5],0,0,some (29,.rptr β1 [.sc (.int .i64 y_11)]),[]⟩,⟨[6],0,0,some (30,.sc (.int .i64 y_11)),[]⟩,⟨[1],0,0,some (31,.rd β2 a1.length (a1.flatMap (encI .i64))),[]⟩,⟨[2],0,0,some (32,.sc (.int .i64 x_7)),[]⟩,⟨[8,9],0,0,some (33,.rptr β2 [.sc (.int .i64 y_12)]),[]⟩,⟨[10],0,0,some (34,.sc (.int .i64 y_12)),[]⟩,⟨[7,11],0,0,some (35,.sc (.bool (decide (y_12 < y_11)))),[]⟩,⟨[12],0,0,some (4,.sc (.bool (decide (y_12 < y_11)))),[]⟩] [] [[]] [[],[],[0,1],[0,1,2],[],[],[4,5],[4,5,6],[0,1,2,3,4,5,6,7],[0,1,2,3,4,5,6,7,8]] (by kernel_rfl) (by kernel_rfl) (BornL.ok (.o<| .o<| .o<| .o<| .b rfl rfl<| .b rfl rfl<| .b rfl rfl<| .b rfl rfl<| .b rfl rfl<| .b rfl rfl<| .b rfl rfl<| .b rfl rfl<| .b rfl rfl<| .b rfl rfl<| .n)) (BaseL.ok (.o rfl<| .o rfl<| .o rfl<| .o rfl<| .b<| .b<| .b<| .b<| .b<| .b<| .b<| .b<| .b<| .b<| .n)) rfl (by decide) (allLt rfl) (.pure rfl (fun H => .put (fun E hE => .move (lt1 rfl) (.tmp (hE.at (k := 0) rfl))))<| .pure rfl (fun H => .put (fun E hE => .move (lt1 rfl) (.tmp (hE.at (k := 0) rfl))))<| .pure rfl (fun H => .put (fun E hE => .indexRd (enc := (encI .i64)) (lt1 rfl) (.tmp (hE.at (k := 0) rfl)) (.tmp (hE.at (k := 1) rfl)) Try.underlying22 sz3 (encI_len .i64) rfl hy_11))<| .pure rfl (fun H => .put (fun E hE => .loadR (v := .sc (.int .i64 y_11)) (lt1 rfl) (.tmp (hE.at (k := 0) rfl)) one3 rfl))<| .pure rfl (fun H => .put (fun E hE => .move (lt1 rfl) (.tmp (hE.at (k := 0) rfl))))<| .pure rfl (fun H => .put (fun E hE => .move (lt1 rfl) (.tmp (hE.at (k := 0) rfl))))<| .pure rfl (fun H => .put (fun E hE => .indexRd (enc := (encI .i64)) (lt1 rfl) (.tmp (hE.at (k := 0) rfl)) (.tmp (hE.at (k := 1) rfl)) Try.underlying22 sz3 (encI_len .i64) rfl hy_12))<| .pure rfl (fun H => .put (fun E hE => .loadR (v := .sc (.int .i64 y_12)) (lt1 rfl) (.tmp (hE.at (k := 0) rfl)) one3 rfl))<| .pure rfl (fun H => .put (fun E hE => .gtr (lt1 rfl) (.tmp (hE.at (k := 0) rfl)) (.tmp (hE.at (k := 1) rfl))))<| .pure rfl (fun H => .put (fun E hE => .assign (lt1 rfl) (.tmp (hE.at (k := 0) rfl))))<| .nil _) (fun E hE => .c (DInv.at hE (k := 13) rfl rfl rfl)<| .n _) rfl ?_
        refine AWP.ret ?_
        obtain rfl := Option.some.inj h
        refine retJ (Res.vc (s' := ⟨[(4,.sc (.bool (decide (y_12 < y_11))))],[]⟩) (VC.sub (.c rfl<| .n _) (.n _)) ?_)
        refine Res.drop (H := []) rfl ?_
        exact Res.of rfl (.cons (.tmp rfl) (.nil)) rfl rfl
      · have h := iteF hc h
        refine AWP.skip ?_
        obtain ⟨t5_13,ht5_13,h⟩ := letS h
        refine AWP.region (.cons (.move (lt1 rfl) (.tmp rfl))<| .cons (.add (lt1 rfl) (.tmp rfl) (.const _ _ _))<| .cons (.assign (lt1 rfl) (.tmp rfl))<| ARun.nil _ _ _) ?_
        exact endJ t5_13 h (by subst ht5_13; exact VC.sub (.c rfl<| .c rfl<| .c rfl<| .n _) (.n _))
    · have h := iteF hc h
      refine AWP.exit ?_
      exact endJ () h (VC.sub (.c rfl<| .c rfl<| .n _) (.n _))
end Go.AB
