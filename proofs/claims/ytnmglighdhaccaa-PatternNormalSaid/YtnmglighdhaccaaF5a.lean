import Derived.Test.YtnmglighdhaccaaProg
import Derived.Test.YtnmglighdhaccaaF6a
import Derived.KernelRfl
set_option linter.unusedVariables false
set_option maxRecDepth 20000
namespace Go.AB
open Go Go.Proofs
theorem c11 {β1 : Bool} {β2 : Bool} (n : Nat) (a0 : R23) {r : Bool} (h : m11 n a0 = some r) : Spec Try.prog 11 [] [.agg [.rd β1 a0.Lengths.length (a0.Lengths.flatMap (encI .i64)),.rd β2 a0.Demand.length (a0.Demand.flatMap (encI .i64)),.sc (.int .i64 a0.Stock),.sc (.int .i64 a0.Kerf)]] [] (.sc (.bool r)) [] := by
  refine Spec.of (fn := Try.f11) Try.func11 Try.ntmps11 rfl rfl (le1 rfl) (fun w0 Zs Zb T0 ι0 => ?_)
  unfold m11 at h
  refine AWP.seq ?_
  refine AWP.region (.cons (.box (t := 1) (n := 4) (lt1 rfl) (nm rfl) (.tmp rfl) (by first | exact ⟨rfl,rfl⟩ | rfl) rfl)<| .cons (.assign (lt1 rfl) (.const _ _ _))<| ARun.nil _ _ _) ?_
  refine AWP.vc (s' := ⟨[(1,.ptr 1 0)],[(1,⟨24,false,[.rd β1 a0.Lengths.length (a0.Lengths.flatMap (encI .i64)),.rd β2 a0.Demand.length (a0.Demand.flatMap (encI .i64)),.sc (.int .i64 a0.Stock),.sc (.int .i64 a0.Kerf)]⟩)]⟩) (VC.sub (.c rfl<| .n _) (.c rfl<| .n _)) ?_
  refine AWP.seq ?_
  refine AWP.seq ?_
  refine AWP.region (.cons (.fieldP (lt1 rfl) (.tmp rfl) fld24_0)<| .cons (.loadP (lt1 rfl) (.tmp rfl) one22 rfl rfl rfl)<| .cons (.lenRd (lt1 rfl) (.tmp rfl) Try.underlying22)<| .cons (.gtr (lt1 rfl) (.tmp rfl) (.const _ _ _))<| .cons (.move (lt1 rfl) (.tmp rfl))<| .guard (j := 4) (dj := 8) rfl (lt1 rfl) rfl (lt1 rfl) (fun hg => .fieldP (lt1 rfl) (.tmp rfl) fld24_1)<| .guard (j := 4) (dj := 8) rfl (lt1 rfl) rfl (lt1 rfl) (fun hg => .loadP (lt1 rfl) (.gd hg (.tmp rfl)) one22 rfl rfl rfl)<| .guard (j := 4) (dj := 8) rfl (lt1 rfl) rfl (lt1 rfl) (fun hg => .lenRd (lt1 rfl) (.gd hg (.tmp rfl)) Try.underlying22)<| .guard (j := 4) (dj := 8) rfl (lt1 rfl) rfl (lt1 rfl) (fun hg => .gtr (lt1 rfl) (.gd hg (.tmp rfl)) (.const _ _ _))<| .cons (.pickOr (lt1 rfl) (.tmp rfl) (.const _ _ _) (.tmp rfl))<| ARun.nil _ _ _) ?_
  refine AWP.vc (s' := ⟨[(1,.ptr 1 0),(13,.sc (.bool ((decide ((25 : Int) < (a0.Lengths.length : Int))) || (decide ((25 : Int) < (a0.Demand.length : Int))))))],[(1,⟨24,false,[.rd β1 a0.Lengths.length (a0.Lengths.flatMap (encI .i64)),.rd β2 a0.Demand.length (a0.Demand.flatMap (encI .i64)),.sc (.int .i64 a0.Stock),.sc (.int .i64 a0.Kerf)]⟩)]⟩) (VC.sub (.c rfl<| .c rfl<| .n _) (.c rfl<| .n _)) ?_
  refine AWP.cond (.tmp rfl) (fun hc => ?_) (fun hc => ?_)
  · have h := iteT hc h
    refine AWP.seq ?_
    refine AWP.region (.cons (.assign (lt1 rfl) (.const _ _ _))<| ARun.nil _ _ _) ?_
    refine AWP.ret ?_
    obtain rfl := Option.some.inj h
    refine retJ (Res.vc (s' := ⟨[(2,.sc (.bool false))],[]⟩) (VC.sub (.c rfl<| .n _) (.n _)) ?_)
    refine Res.drop (H := []) rfl ?_
    exact Res.of rfl (.cons (.tmp rfl) (.nil)) rfl rfl
  · have h := iteF hc h
    refine AWP.skip ?_
    refine AWP.seq ?_
    refine AWP.seq ?_
    obtain ⟨y_1,hy_1,h⟩ := bindS h
    refine AWP.region (.cons (.loadPA (lt1 rfl) (.tmp rfl) agg24 rfl rfl rfl rfl)<| .cons (.call0 (bw := false) (lt1 rfl) (c12 (β1 := β1) (β2 := β2) n (R23.mk a0.Lengths a0.Demand a0.Stock a0.Kerf) hy_1) (.cons (.tmp rfl) (.ren rfl) (.nil)) rfl)<| .cons (.not (lt1 rfl) (.tmp rfl))<| ARun.nil _ _ _) ?_
    refine AWP.vc (s' := ⟨[(1,.ptr 1 0),(16,.sc (.bool (!y_1)))],[(1,⟨24,false,[.rd β1 a0.Lengths.length (a0.Lengths.flatMap (encI .i64)),.rd β2 a0.Demand.length (a0.Demand.flatMap (encI .i64)),.sc (.int .i64 a0.Stock),.sc (.int .i64 a0.Kerf)]⟩)]⟩) (VC.sub (.c rfl<| .c rfl<| .n _) (.c rfl<| .n _)) ?_
    refine AWP.cond (.tmp rfl) (fun hc => ?_) (fun hc => ?_)
    · have h := iteT hc h
      refine AWP.seq ?_
      refine AWP.region (.cons (.assign (lt1 rfl) (.const _ _ _))<| ARun.nil _ _ _) ?_
      refine AWP.ret ?_
      obtain rfl := Option.some.inj h
      refine retJ (Res.vc (s' := ⟨[(2,.sc (.bool true))],[]⟩) (VC.sub (.c rfl<| .n _) (.n _)) ?_)
      refine Res.drop (H := []) rfl ?_
      exact Res.of rfl (.cons (.tmp rfl) (.nil)) rfl rfl
    · have h := iteF hc h
      refine AWP.skip ?_
      refine AWP.seq ?_
      refine AWP.seq ?_
      refine AWP.region (.cons (.assign (lt1 rfl) (.const _ _ _))<| ARun.nil _ _ _) ?_
      refine AWP.vc (s' := ⟨[(1,.ptr 1 0),(3,.sc (.int .i64 (0 : Int)))],[(1,⟨24,false,[.rd β1 a0.Lengths.length (a0.Lengths.flatMap (encI .i64)),.rd β2 a0.Demand.length (a0.Demand.flatMap (encI .i64)),.sc (.int .i64 a0.Stock),.sc (.int .i64 a0.Kerf)]⟩)]⟩) (VC.sub (.c rfl<| .c rfl<| .n _) (.c rfl<| .n _)) ?_
      refine AWP.joinB' (S := fun p_9 : Unit => ⟨[(1,.ptr 1 0)],[(1,⟨24,false,[.rd β1 a0.Lengths.length (a0.Lengths.flatMap (encI .i64)),.rd β2 a0.Demand.length (a0.Demand.flatMap (encI .i64)),.sc (.int .i64 a0.Stock),.sc (.int .i64 a0.Kerf)]⟩)]⟩) h (fun p_9 h => ?_) (fun k_10 h => ?_)
      · refine AWP.seq ?_
        obtain ⟨y_11,hy_11,h⟩ := bindS h
        refine AWP.draw (s' := ⟨[(2,.sc (.bool ((decide ((a0.Lengths.length : Int) ≤ (6 : Int))) && (decide (a0.Stock ≤ (IntKind.wrap .i64 ((12 : Int) * y_11)))))))],[(1,⟨24,false,[.rd β1 a0.Lengths.length (a0.Lengths.flatMap (encI .i64)),.rd β2 a0.Demand.length (a0.Demand.flatMap (encI .i64)),.sc (.int .i64 a0.Stock),.sc (.int .i64 a0.Kerf)]⟩)]⟩) mixed [⟨1,.ptr 1 0,none,[]⟩,⟨30,.ptr 1 (0 + 0),some 0,[]⟩,⟨31,.rd β1 a0.Lengths.length (a0.Lengths.flatMap (encI .i64)),some 1,[]⟩,⟨32,.sc (.int .i64 (a0.Lengths.length : Int)),some 2,[]⟩,⟨33,.sc (.bool (decide ((a0.Lengths.length : Int) ≤ (6 : Int)))),some 3,[]⟩,⟨34,.sc (.bool (decide ((a0.Lengths.length : Int) ≤ (6 : Int)))),some 4,[]⟩,⟨35,.gd (decide ((a0.Lengths.length : Int) ≤ (6 : Int))) (.ptr 1 (0 + 2)),some 5,[]⟩,⟨36,.gd (decide ((a0.Lengths.length : Int) ≤ (6 : Int))) (.sc (.int .i64 a0.Stock)),some 6,[]⟩,⟨37,.gd (decide ((a0.Lengths.length : Int) ≤ (6 : Int))) (.ptr 1 (0 + 0)),some 7,[]⟩,⟨38,.gd (decide ((a0.Lengths.length : Int) ≤ (6 : Int))) (.rd β1 a0.Lengths.length (a0.Lengths.flatMap (encI .i64))),some 8,[]⟩,⟨39,.gd (decide ((a0.Lengths.length : Int) ≤ (6 : Int))) (.ptr 1 (0 + 0)),some 9,[]⟩,⟨40,.gd (decide ((a0.Lengths.length : Int) ≤ (6 : Int))) (.rd β1 a0.Lengths.length (a0.Lengths.flatMap (encI .i64))),some 10,[]⟩,⟨41,.gd (decide ((a0.Lengths.length : Int) ≤ (6 : Int))) (.sc (.int .i64 (a0.Lengths.length : Int))),some 11,[]⟩,⟨42,.gd (decide ((a0.Lengths.length : Int) ≤ (6 : Int))) (.sc (.int .i64 (IntKind.wrap .i64 ((a0.Lengths.length : Int) - (1 : Int))))),some 12,[]⟩,⟨43,.gd (decide ((a0.Lengths.length : Int) ≤ (6 : Int))) (.rptr β1 [.sc (.int .i64 y_11)]),some 13,[]⟩,⟨44,.gd (decide ((a0.Lengths.length : Int) ≤ (6 : Int))) (.sc (.int .i64 y_11)),some 14,[]⟩,⟨45,.gd (decide ((a0.Lengths.length : Int) ≤ (6 : Int))) (.sc (.int .i64 (IntKind.wrap .i64 ((12 : Int) * y_11)))),some 15,[]⟩,⟨46,.gd (decide ((a0.Lengths.length : Int) ≤ (6 : Int))) (.sc (.bool (decide (a0.Stock ≤ (IntKind.wrap .i64 ((12 : Int) * y_11)))))),some 16,[]⟩,⟨47,.sc (.bool ((decide ((a0.Lengths.length : Int) ≤ (6 : Int))) && (decide (a0.Stock ≤ (IntKind.wrap .i64 ((12 : Int) * y_11)))))),some 17,[]⟩,⟨2,.sc (.bool ((decide ((a0.Lengths.length : Int) ≤ (6 : Int))) && (decide (a0.Stock ≤ (IntKind.wrap .i64 ((12 : Int) * y_11)))))),some 18,[]⟩] [⟨[0],0,0,some (30,.ptr 1 (0 + 0)),[]⟩,⟨[1],0,0,some (31,.rd β1 a0.Lengths.length (a0.Lengths.flatMap (encI .i64))),[]⟩,⟨[2],0,0,some (32,.sc (.int .i64 (a0.Lengths.length : Int))),[]⟩,⟨[3],0,0,some (33,.sc (.bool (decide ((a0.Lengths.length : Int) ≤ (6 : Int))))),[]⟩,⟨[4],0,0,some (34,.sc (.bool (decide ((a0.Lengths.length : Int) ≤ (6 : Int))))),[]⟩,⟨[5,0],0,0,some (35,.gd (decide ((a0.Lengths.length : Int) ≤ (6 : Int))) (.ptr 1 (0 + 2))),[]⟩,⟨[5,6],0,0,some (36,.gd (decide ((a0.Lengths.length : Int) ≤ (6 : Int))) (.sc (.int .i64 a0.Stock))),[]⟩,⟨[5,0],0,0,some (37,.gd (decide ((a0.Lengths.length : Int) ≤ (6 : Int))) (.ptr 1 (0 + 0))),[]⟩,⟨[5,8],0,0,some (38,.gd (decide ((a0.Lengths.length : Int) ≤ (6 : Int))) (.rd β1 a0.Lengths.length (a0.Lengths.flatMap (encI .i64)))),[]⟩,⟨[5,0],0,0,some (39,.gd (decide ((a0.Lengths.length : Int) ≤ (6 : Int))) (.ptr 1 (0 + 0))),[]⟩,⟨[5,10],0,0,some (40,.gd (decide ((a0.Lengths.length : Int) ≤ (6 : Int))) (.rd β1 a0.Lengths.length (a0.Lengths.flatMap (encI .i64)))),[]⟩,⟨[5,11],0,0,some (41,.gd (decide ((a0.Lengths.length : Int) ≤ (6 : Int))) (.sc (.int .i64 (a0.Lengths.length : Int)))),[]⟩,⟨[5,12],0,0,some (42,.gd (decide ((a0.Lengths.length : Int) ≤ (6 : Int))) (.sc (.int .i64 (IntKind.wrap .i64 ((a0.Lengths.length : Int) - (1 : Int)))))),[]⟩,⟨[5,9,13],0,0,some (43,.gd (decide ((a0.Lengths.length : Int) ≤ (6 : Int))) (.rptr β1 [.sc (.int .i64 y_11)])),[]⟩,⟨[5,14],0,0,some (44,.gd (decide ((a0.Lengths.length : Int) ≤ (6 : Int))) (.sc (.int .i64 y_11))),[]⟩,⟨[5,15],0,0,some (45,.gd (decide ((a0.Lengths.length : Int) ≤ (6 : Int))) (.sc (.int .i64 (IntKind.wrap .i64 ((12 : Int) * y_11))))),[]⟩,⟨[5,7,16],0,0,some (46,.gd (decide ((a0.Lengths.length : Int) ≤ (6 : Int))) (.sc (.bool (decide (a0.Stock ≤ (IntKind.wrap .i64 ((12 : Int) * y_11))))))),[]⟩,⟨[5,17],0,0,some (47,.sc (.bool ((decide ((a0.Lengths.length : Int) ≤ (6 : Int))) && (decide (a0.Stock ≤ (IntKind.wrap .i64 ((12 : Int) * y_11))))))),[]⟩,⟨[18],0,0,some (2,.sc (.bool ((decide ((a0.Lengths.length : Int) ≤ (6 : Int))) && (decide (a0.Stock ≤ (IntKind.wrap .i64 ((12 : Int) * y_11))))))),[]⟩] [] [[(1,⟨24,false,[.rd β1 a0.Lengths.length (a0.Lengths.flatMap (encI .i64)),.rd β2 a0.Demand.length (a0.Demand.flatMap (encI .i64)),.sc (.int .i64 a0.Stock),.sc (.int .i64 a0.Kerf)]⟩)]] [[],[0],[0,1],[0,1,2],[0,1,2,3],[0,1,2,3,4],[0,1,2,3,4,5],[0,1,2,3,4],[0,1,2,3,4,7],[0,1,2,3,4],[0,1,2,3,4,9],[0,1,2,3,4,9,10],[0,1,2,3,4,9,10,11],[0,1,2,3,4,7,8,9,10,11,12],[0,1,2,3,4,7,8,9,10,11,12,13],[0,1,2,3,4,7,8,9,10,11,12,13,14],[0,1,2,3,4,5,6,7,8,9,10,11,12,13,14,15],[0,1,2,3,4,5,6,7,8,9,10,11,12,13,14,15,16],[0,1,2,3,4,5,6,7,8,9,10,11,12,13,14,15,16,17]] (by kernel_rfl) (by kernel_rfl) (BornL.ok (.o<| .b rfl rfl<| .b rfl rfl<| .b rfl rfl<| .b rfl rfl<| .b rfl rfl<| .b rfl rfl<| .b rfl rfl<| .b rfl rfl<| .b rfl rfl<| .b rfl rfl<| .b rfl rfl<| .b rfl rfl<| .b rfl rfl<| .b rfl rfl<| .b rfl rfl<| .b rfl rfl<| .b rfl rfl<| .b rfl rfl<| .b rfl rfl<| .n)) (BaseL.ok (.o rfl<| .b<| .b<| .b<| .b<| .b<| .b<| .b<| .b<| .b<| .b<| .b<| .b<| .b<| .b<| .b<| .b<| .b<| .b<| .b<| .n)) rfl (by decide) (allLt rfl) (.read rfl (.c (.put (fun E hE => .fieldP (lt1 rfl) (.tmp (hE.at (k := 0) rfl)) fld24_0)) .n)<| .read rfl (.c (.put (fun E hE => .loadP (lt1 rfl) (.tmp (hE.at (k := 0) rfl)) one22 rfl rfl rfl)) .n)<| .pure rfl (fun H => .put (fun E hE => .lenRd (lt1 rfl) (.tmp (hE.at (k := 0) rfl)) Try.underlying22))<| .pure rfl (fun H => .put (fun E hE => .leq (lt1 rfl) (.tmp (hE.at (k := 0) rfl)) (.const _ _ _)))<| .pure rfl (fun H => .put (fun E hE => .move (lt1 rfl) (.tmp (hE.at (k := 0) rfl))))<| .read rfl (.c (.gput (b := (decide ((a0.Lengths.length : Int) ≤ (6 : Int)))) (want := true) (j := 4) (dj := 34) rfl (lt1 rfl) (lt1 rfl) (fun E hE => hE.at (k := 0) rfl) (fun hg E hE => .fieldP (lt1 rfl) (.tmp (hE.at (k := 1) rfl)) fld24_2)) .n)<| .read rfl (.c (.gput (b := (decide ((a0.Lengths.length : Int) ≤ (6 : Int)))) (want := true) (j := 4) (dj := 34) rfl (lt1 rfl) (lt1 rfl) (fun E hE => hE.at (k := 0) rfl) (fun hg E hE => .loadP (lt1 rfl) (.gd hg (.tmp (hE.at (k := 1) rfl))) one3 rfl rfl rfl)) .n)<| .read rfl (.c (.gput (b := (decide ((a0.Lengths.length : Int) ≤ (6 : Int)))) (want := true) (j := 4) (dj := 34) rfl (lt1 rfl) (lt1 rfl) (fun E hE => hE.at (k := 0) rfl) (fun hg E hE => .fieldP (lt1 rfl) (.tmp (hE.at (k := 1) rfl)) fld24_0)) .n)<| .read rfl (.c (.gput (b := (decide ((a0.Lengths.length : Int) ≤ (6 : Int)))) (want := true) (j := 4) (dj := 34) rfl (lt1 rfl) (lt1 rfl) (fun E hE => hE.at (k := 0) rfl) (fun hg E hE => .loadP (lt1 rfl) (.gd hg (.tmp (hE.at (k := 1) rfl))) one22 rfl rfl rfl)) .n)<| .read rfl (.c (.gput (b := (decide ((a0.Lengths.length : Int) ≤ (6 : Int)))) (want := true) (j := 4) (dj := 34) rfl (lt1 rfl) (lt1 rfl) (fun E hE => hE.at (k := 0) rfl) (fun hg E hE => .fieldP (lt1 rfl) (.tmp (hE.at (k := 1) rfl)) fld24_0)) .n)<| .read rfl (.c (.gput (b := (decide ((a0.Lengths.length : Int) ≤ (6 : Int)))) (want := true) (j := 4) (dj := 34) rfl (lt1 rfl) (lt1 rfl) (fun E hE => hE.at (k := 0) rfl) (fun hg E hE => .loadP (lt1 rfl) (.gd hg (.tmp (hE.at (k := 1) rfl))) one22 rfl rfl rfl)) .n)<| .pure rfl (fun H => .gput (b := (decide ((a0.Lengths.length : Int) ≤ (6 : Int)))) (want := true) (j := 4) (dj := 34) rfl (lt1 rfl) (lt1 rfl) (fun E hE => hE.at (k := 0) rfl) (fun hg E hE => .lenRd (lt1 rfl) (.gd hg (.tmp (hE.at (k := 1) rfl))) Try.underlying22))<| .pure rfl (fun H => .gput (b := (decide ((a0.Lengths.length : Int) ≤ (6 : Int)))) (want := true) (j := 4) (dj := 34) rfl (lt1 rfl) (lt1 rfl) (fun E hE => hE.at (k := 0) rfl) (fun hg E hE => .sub (lt1 rfl) (.gd hg (.tmp (hE.at (k := 1) rfl))) (.const _ _ _)))<| .pure rfl (fun H => .gput (b := (decide ((a0.Lengths.length : Int) ≤ (6 : Int)))) (want := true) (j := 4) (dj := 34) rfl (lt1 rfl) (lt1 rfl) (fun E hE => hE.at (k := 0) rfl) (fun hg E hE => .indexRd (enc := (encI .i64)) (lt1 rfl) (.gd hg (.tmp (hE.at (k := 1) rfl))) (.gd hg (.tmp (hE.at (k := 2) rfl))) Try.underlying22 sz3 (encI_len .i64) rfl (gdB hy_11 hg)))<| .pure rfl (fun H => .gput (b := (decide ((a0.Lengths.length : Int) ≤ (6 : Int)))) (want := true) (j := 4) (dj := 34) rfl (lt1 rfl) (lt1 rfl) (fun E hE => hE.at (k := 0) rfl) (fun hg E hE => .loadR (v := .sc (.int .i64 y_11)) (lt1 rfl) (.gd hg (.tmp (hE.at (k := 1) rfl))) one3 rfl))<| .pure rfl (fun H => .gput (b := (decide ((a0.Lengths.length : Int) ≤ (6 : Int)))) (want := true) (j := 4) (dj := 34) rfl (lt1 rfl) (lt1 rfl) (fun E hE => hE.at (k := 0) rfl) (fun hg E hE => .mul (lt1 rfl) (.const _ _ _) (.gd hg (.tmp (hE.at (k := 1) rfl)))))<| .pure rfl (fun H => .gput (b := (decide ((a0.Lengths.length : Int) ≤ (6 : Int)))) (want := true) (j := 4) (dj := 34) rfl (lt1 rfl) (lt1 rfl) (fun E hE => hE.at (k := 0) rfl) (fun hg E hE => .leq (lt1 rfl) (.gd hg (.tmp (hE.at (k := 1) rfl))) (.gd hg (.tmp (hE.at (k := 2) rfl)))))<| .pure rfl (fun H => .put (fun E hE => .pickAnd (lt1 rfl) (.tmp (hE.at (k := 0) rfl)) (.tmp (hE.at (k := 1) rfl)) (.const _ _ _)))<| .pure rfl (fun H => .put (fun E hE => .assign (lt1 rfl) (.tmp (hE.at (k := 0) rfl))))<| .nil _) (fun E hE => .c (DInv.at hE (k := 19) rfl rfl rfl)<| .n _) rfl ?_
        refine AWP.ret ?_
        obtain rfl := Option.some.inj h
        refine retJ (Res.vc (s' := ⟨[(2,.sc (.bool ((decide ((a0.Lengths.length : Int) ≤ (6 : Int))) && (decide (a0.Stock ≤ (IntKind.wrap .i64 ((12 : Int) * y_11)))))))],[]⟩) (VC.sub (.c rfl<| .n _) (.n _)) ?_)
        refine Res.drop (H := []) rfl ?_
        exact Res.of rfl (.cons (.tmp rfl) (.nil)) rfl rfl
      · refine AWP.vc (s' := ⟨[(1,.ptr 1 0),(3,.sc (.int .i64 (0 : Int)))],[(1,⟨24,false,[.rd β1 a0.Lengths.length (a0.Lengths.flatMap (encI .i64)),.rd β2 a0.Demand.length (a0.Demand.flatMap (encI .i64)),.sc (.int .i64 a0.Stock),.sc (.int .i64 a0.Kerf)]⟩)]⟩) (VC.sub (.c rfl<| .c rfl<| .n _) (.c rfl<| .n _)) ?_
        refine AWP.loopM (S := fun x_5 : Int => ⟨[(1,.ptr 1 0),(3,.sc (.int .i64 x_5))],[(1,⟨24,false,[.rd β1 a0.Lengths.length (a0.Lengths.flatMap (encI .i64)),.rd β2 a0.Demand.length (a0.Demand.flatMap (encI .i64)),.sc (.int .i64 a0.Stock),.sc (.int .i64 a0.Kerf)]⟩)]⟩) (x := (0 : Int)) (fun nx_6 x_5 h => ?_) h
        unfold m11_L1 at h
        refine AWP.seq ?_
        refine AWP.seq ?_
        refine AWP.region (.cons (.move (lt1 rfl) (.tmp rfl))<| .cons (.fieldP (lt1 rfl) (.tmp rfl) fld24_1)<| .cons (.loadP (lt1 rfl) (.tmp rfl) one22 rfl rfl rfl)<| .cons (.lenRd (lt1 rfl) (.tmp rfl) Try.underlying22)<| .cons (.lss (lt1 rfl) (.tmp rfl) (.tmp rfl))<| ARun.nil _ _ _) ?_
        refine AWP.vc (s' := ⟨[(1,.ptr 1 0),(3,.sc (.int .i64 x_5)),(21,.sc (.bool (decide (x_5 < (a0.Demand.length : Int)))))],[(1,⟨24,false,[.rd β1 a0.Lengths.length (a0.Lengths.flatMap (encI .i64)),.rd β2 a0.Demand.length (a0.Demand.flatMap (encI .i64)),.sc (.int .i64 a0.Stock),.sc (.int .i64 a0.Kerf)]⟩)]⟩) (VC.sub (.c rfl<| .c rfl<| .c rfl<| .n _) (.c rfl<| .n _)) ?_
        refine AWP.cond (.tmp rfl) (fun hc => ?_) (fun hc => ?_)
        · have h := iteT hc h
          refine AWP.skip ?_
          refine AWP.seq ?_
          refine AWP.block ?_
          refine AWP.seq ?_
          obtain ⟨y_7,hy_7,h⟩ := bindS h
          refine AWP.region (.cons (.fieldP (lt1 rfl) (.tmp rfl) fld24_1)<| .cons (.loadP (lt1 rfl) (.tmp rfl) one22 rfl rfl rfl)<| .cons (.move (lt1 rfl) (.tmp rfl))<| .cons (.indexRd (enc := (encI .i64)) (lt1 rfl) (.tmp rfl) (.tmp rfl) Try.underlying22 sz3 (encI_len .i64) rfl hy_7)<| .cons (.loadR (v := .sc (.int .i64 y_7)) (lt1 rfl) (.tmp rfl) one3 rfl)<| .cons (.gtr (lt1 rfl) (.tmp rfl) (.const _ _ _))<| ARun.nil _ _ _) ?_
          refine AWP.vc (s' := ⟨[(1,.ptr 1 0),(3,.sc (.int .i64 x_5)),(29,.sc (.bool (decide ((30 : Int) < y_7))))],[(1,⟨24,false,[.rd β1 a0.Lengths.length (a0.Lengths.flatMap (encI .i64)),.rd β2 a0.Demand.length (a0.Demand.flatMap (encI .i64)),.sc (.int .i64 a0.Stock),.sc (.int .i64 a0.Kerf)]⟩)]⟩) (VC.sub (.c rfl<| .c rfl<| .c rfl<| .n _) (.c rfl<| .n _)) ?_
          refine AWP.cond (.tmp rfl) (fun hc => ?_) (fun hc => ?_)
          · have h := iteT hc h
            refine AWP.seq ?_
            refine AWP.region (.cons (.assign (lt1 rfl) (.const _ _ _))<| ARun.nil _ _ _) ?_
            refine AWP.ret ?_
            obtain rfl := Option.some.inj h
            refine retJ (Res.vc (s' := ⟨[(2,.sc (.bool false))],[]⟩) (VC.sub (.c rfl<| .n _) (.n _)) ?_)
            refine Res.drop (H := []) rfl ?_
            exact Res.of rfl (.cons (.tmp rfl) (.nil)) rfl rfl
          · have h := iteF hc h
            refine AWP.skip ?_
            obtain ⟨t3_8,ht3_8,h⟩ := letS h
            refine AWP.region (.cons (.move (lt1 rfl) (.tmp rfl))<| .cons (.add (lt1 rfl) (.tmp rfl) (.const _ _ _))<| .cons (.assign (lt1 rfl) (.tmp rfl))<| ARun.nil _ _ _) ?_
            exact endJ t3_8 h (by subst ht3_8; exact VC.sub (.c rfl<| .c rfl<| .n _) (.c rfl<| .n _))
        · have h := iteF hc h
          refine AWP.exit ?_
          exact endJ () h (VC.sub (.c rfl<| .n _) (.c rfl<| .n _))
end Go.AB
