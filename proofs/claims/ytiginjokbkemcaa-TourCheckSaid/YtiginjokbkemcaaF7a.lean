import Derived.Test.YtiginjokbkemcaaProg
import Derived.Test.YtiginjokbkemcaaF0b
import Derived.KernelRfl
set_option linter.unusedVariables false
set_option maxRecDepth 20000
namespace Go.AB
open Go Go.Proofs
theorem c12 {β1 : Bool} {β2 : Bool} (n : Nat) (a0 : R24) {r : Bool} (h : m12 n a0 = some r) : Spec Try.prog 12 [] [.agg (pW β1 β2 a0)] [] (bW r) [] := by
 refine Spec.of (fn := Try.f12) Try.func12 Try.ntmps12 rfl rfl (le1 rfl) (fun w0 Zs Zb T0 ι0 => ?_)
 unfold m12 at h
 refine AWP.seq ?_
 refine AWP.rg (.cons (.box (t := 1) (n := 2) (l1 rfl) (nm rfl) (.t rfl) (by first | exact ⟨rfl,rfl⟩ | rfl) rfl)<| .cons (.assign (l1 rfl) (.const _ _ _))<| ARun.nil _ _ _) ?_
 refine AWP.vc (s' := ⟨[(1,.ptr 1 0)],[(1,⟨25,false,(pW β1 β2 a0)⟩)]⟩) (VC.sub (.of rfl) (.of rfl)) ?_
 refine AWP.seq ?_
 refine AWP.rg (.cons (.fieldP (l1 rfl) (.t rfl) fld25_0)<| .cons (.loadP (l1 rfl) (.t rfl) one22 rfl rfl rfl)<| .cons (.lenRd (l1 rfl) (.t rfl) Try.underlying22)<| .cons (.leq (l1 rfl) (.t rfl) (.const _ _ _))<| .cons (.move (l1 rfl) (.t rfl))<| .guard (j := 4) (dj := 7) rfl (l1 rfl) rfl (l1 rfl) (fun hg => .fieldP (l1 rfl) (.t rfl) fld25_1)<| .guard (j := 4) (dj := 7) rfl (l1 rfl) rfl (l1 rfl) (fun hg => .loadP (l1 rfl) (.gd hg (.t rfl)) one23 rfl rfl rfl)<| .guard (j := 4) (dj := 7) rfl (l1 rfl) rfl (l1 rfl) (fun hg => .lenRd (l1 rfl) (.gd hg (.t rfl)) Try.underlying23)<| .guard (j := 4) (dj := 7) rfl (l1 rfl) rfl (l1 rfl) (fun hg => .leq (l1 rfl) (.gd hg (.t rfl)) (.const _ _ _))<| .cons (.pickAnd (l1 rfl) (.t rfl) (.t rfl) (.const _ _ _))<| .cons (.assign (l1 rfl) (.t rfl))<| ARun.nil _ _ _) ?_
 refine AWP.ret ?_
 obtain rfl := Option.some.inj h
 refine retJ (Res.vc (s' := ⟨[(2,bW ((decide ((a0.Pq.length : Int) ≤ (9 : Int))) && (decide ((a0.Bq.length : Int) ≤ (12 : Int)))))],[]⟩) (VC.sub (.of rfl) (.n _)) ?_)
 refine Res.drop (H := []) rfl ?_
 exact Res.of rfl (.cons (.tmp rfl) (.nil)) rfl rfl
theorem c14 {β1 : Bool} {β2 : Bool} (n : Nat) (a0 : R24) {r : R24} (h : m14 n a0 = some r) : Spec Try.prog 14 [] [.agg (pW β1 β2 a0)] [] (.agg (pW β1 β2 r)) [] := by
 refine Spec.of (fn := Try.f14) Try.func14 Try.ntmps14 rfl rfl (le1 rfl) (fun w0 Zs Zb T0 ι0 => ?_)
 unfold m14 at h
 refine AWP.seq ?_
 refine AWP.rg (.cons (.box (t := 1) (n := 2) (l1 rfl) (nm rfl) (.t rfl) (by first | exact ⟨rfl,rfl⟩ | rfl) rfl)<| .cons (.alloc (t := 2) (k := ⟨32,false,[.sc (.slice none 0 0),.sc (.slice none 0 0)]⟩) (l1 rfl) (nm rfl) zero32 rfl rfl)<| ARun.nil _ _ _) ?_
 refine AWP.vc (s' := ⟨[(1,.ptr 1 0),(2,.ptr 2 0)],[(2,⟨32,false,[.sc (.slice none 0 0),.sc (.slice none 0 0)]⟩),(1,⟨25,false,(pW β1 β2 a0)⟩)]⟩) (VC.sub (.of rfl) (.of rfl)) ?_
 refine AWP.seq ?_
 refine AWP.rg (.cons (.loadPA (l1 rfl) (.t rfl) agg25 rfl rfl rfl rfl)<| .cons (.storePA (.t rfl) (.t rfl) sz32 rfl rfl (le1 rfl) (one_lit rfl) (by intro h; cases h) rfl)<| ARun.nil _ _ _) ?_
 refine AWP.ret ?_
 obtain rfl := Option.some.inj h
 refine retJ (Res.vc (s' := ⟨[(2,.ptr 2 0)],[(2,⟨32,false,(pW β1 β2 a0)⟩)]⟩) (VC.sub (.of rfl) (.of rfl)) ?_)
 refine Res.drop (H := [(2,⟨32,false,(pW β1 β2 a0)⟩)]) rfl ?_
 exact Res.of rfl (.cons (.cell rfl agg32 rfl rfl rfl rfl) (.nil)) rfl rfl
theorem c25 {β1 : Bool} {β2 : Bool} {β3 : Bool} (n : Nat) (a0 : R52) {r : R57} (h : m25 n a0 = some r) : Spec Try.prog 25 [] [.agg (gW β1 β2 β3 a0.Gq a0.Path a0.Ln)] [] (.agg (gW β1 β2 β3 r.Gq r.Path r.Ln)) [] := by
 refine Spec.of (fn := Try.f25) Try.func25 Try.ntmps25 rfl rfl (le1 rfl) (fun w0 Zs Zb T0 ι0 => ?_)
 unfold m25 at h
 refine AWP.seq ?_
 refine AWP.rg (.cons (.box (t := 1) (n := 4) (l1 rfl) (nm rfl) (.t rfl) (by first | exact ⟨rfl,rfl⟩ | rfl) rfl)<| .cons (.alloc (t := 2) (k := ⟨58,false,[.sc (.slice none 0 0),.sc (.slice none 0 0),.sc (.slice none 0 0),iW (0 : Int)]⟩) (l1 rfl) (nm rfl) zero58 rfl rfl)<| ARun.nil _ _ _) ?_
 refine AWP.vc (s' := ⟨[(1,.ptr 1 0),(2,.ptr 2 0)],[(2,⟨58,false,[.sc (.slice none 0 0),.sc (.slice none 0 0),.sc (.slice none 0 0),iW (0 : Int)]⟩),(1,⟨53,false,(gW β1 β2 β3 a0.Gq a0.Path a0.Ln)⟩)]⟩) (VC.sub (.of rfl) (.of rfl)) ?_
 refine AWP.seq ?_
 obtain ⟨y_1,hy_1,h⟩ := bindS h
 refine AWP.draw (s' := ⟨[(2,.ptr 2 0)],[(2,⟨58,false,[rW β1 y_1.Pq e45,rW β2 y_1.Bq e93,rW β3 a0.Path eW,iW a0.Ln]⟩),(1,⟨53,false,(gW β1 β2 β3 a0.Gq a0.Path a0.Ln)⟩)]⟩) mixed [⟨1,.ptr 1 0,none,[]⟩,⟨2,.ptr 2 0,none,[]⟩,⟨3,.ptr 1 (0 + 0),some 0,[]⟩,⟨4,.agg (pW β1 β2 a0.Gq),some 1,[]⟩,⟨5,.agg (pW β1 β2 y_1),some 2,[]⟩,⟨6,.ptr 1 (0 + 2),some 3,[]⟩,⟨7,rW β3 a0.Path eW,some 4,[]⟩,⟨8,.ptr 1 (0 + 3),some 5,[]⟩,⟨9,iW a0.Ln,some 6,[]⟩,⟨10,.agg [rW β1 y_1.Pq e45,rW β2 y_1.Bq e93,rW β3 a0.Path eW,iW a0.Ln],some 7,[]⟩] [⟨[0],0,0,some (3,.ptr 1 (0 + 0)),[]⟩,⟨[2],0,0,some (4,.agg (pW β1 β2 a0.Gq)),[]⟩,⟨[3],0,1,some (5,.agg (pW β1 β2 y_1)),[]⟩,⟨[0],0,0,some (6,.ptr 1 (0 + 2)),[]⟩,⟨[5],0,0,some (7,rW β3 a0.Path eW),[]⟩,⟨[0],0,0,some (8,.ptr 1 (0 + 3)),[]⟩,⟨[7],0,0,some (9,iW a0.Ln),[]⟩,⟨[4,6,8],0,1,some (10,.agg [rW β1 y_1.Pq e45,rW β2 y_1.Bq e93,rW β3 a0.Path eW,iW a0.Ln]),[]⟩,⟨[1,9],0,0,none,[]⟩] [8] [[(2,⟨58,false,[.sc (.slice none 0 0),.sc (.slice none 0 0),.sc (.slice none 0 0),iW (0 : Int)]⟩),(1,⟨53,false,(gW β1 β2 β3 a0.Gq a0.Path a0.Ln)⟩)],[(2,⟨58,false,[rW β1 y_1.Pq e45,rW β2 y_1.Bq e93,rW β3 a0.Path eW,iW a0.Ln]⟩),(1,⟨53,false,(gW β1 β2 β3 a0.Gq a0.Path a0.Ln)⟩)]] [[],[0],[0,1],[],[3],[],[5],[0,1,2,3,4,5,6],[0,1,2,3,4,5,6,7]] (by kernel_rfl) (by kernel_rfl) (BornL.ok (.o<| .o<| .b rfl rfl<| .b rfl rfl<| .b rfl rfl<| .b rfl rfl<| .b rfl rfl<| .b rfl rfl<| .b rfl rfl<| .b rfl rfl<| .n)) (BaseL.ok (.o rfl<| .o rfl<| .b<| .b<| .b<| .b<| .b<| .b<| .b<| .b<| .n)) rfl (by decide) (allLt rfl) (.read rfl (.c (.put (fun E hE => .fieldP (l1 rfl) (.tmp (hE.at (k := 0) rfl)) fld53_0)) (.n))<| .read rfl (.c (.put (fun E hE => .loadPA (l1 rfl) (.tmp (hE.at (k := 0) rfl)) agg25 rfl rfl rfl rfl)) (.n))<| .pure rfl (fun H => .put (fun E hE => .call0 (bw := false) (l1 rfl) (c14 (β1 := β1) (β2 := β2) n (R24.mk a0.Gq.Pq a0.Gq.Bq) hy_1) (.cons (.tmp (hE.at (k := 0) rfl)) (.ren rfl) (.nil)) rfl))<| .read rfl (.c (.put (fun E hE => .fieldP (l1 rfl) (.tmp (hE.at (k := 0) rfl)) fld53_1)) (.n))<| .read rfl (.c (.put (fun E hE => .loadP (l1 rfl) (.tmp (hE.at (k := 0) rfl)) one28 rfl rfl rfl)) (.n))<| .read rfl (.c (.put (fun E hE => .fieldP (l1 rfl) (.tmp (hE.at (k := 0) rfl)) fld53_2)) (.n))<| .read rfl (.c (.put (fun E hE => .loadP (l1 rfl) (.tmp (hE.at (k := 0) rfl)) one3 rfl rfl rfl)) (.n))<| .pure rfl (fun H => .put (fun E hE => .buildO (offs := [(0,2),(2,1),(3,1)]) (l1 rfl) (.cons (.tmp (hE.at (k := 0) rfl)) (by first | exact ⟨rfl,rfl⟩ | rfl) (.cons (.tmp (hE.at (k := 1) rfl)) (by first | exact ⟨rfl,rfl⟩ | rfl) (.cons (.tmp (hE.at (k := 2) rfl)) (by first | exact ⟨rfl,rfl⟩ | rfl) (.nil)))) zero58 offs58 rfl))<| .turn rfl rfl rfl rfl rfl (.store (fun E hE => .storePA (.tmp (hE.at (k := 0) rfl)) (.tmp (hE.at (k := 1) rfl)) sz58 rfl rfl (le1 rfl) (one_lit rfl) (by intro h; cases h) rfl) rfl)<| .nil _) (fun E hE => .c (DInv.at hE (k := 1) rfl rfl rfl)<| .n _) rfl ?_
 refine AWP.ret ?_
 obtain rfl := Option.some.inj h
 refine retJ (Res.vc (s' := ⟨[(2,.ptr 2 0)],[(2,⟨58,false,[rW β1 y_1.Pq e45,rW β2 y_1.Bq e93,rW β3 a0.Path eW,iW a0.Ln]⟩)]⟩) (VC.sub (.of rfl) (.of rfl)) ?_)
 refine Res.drop (H := [(2,⟨58,false,[rW β1 y_1.Pq e45,rW β2 y_1.Bq e93,rW β3 a0.Path eW,iW a0.Ln]⟩)]) rfl ?_
 exact Res.of rfl (.cons (.cell rfl agg58 rfl rfl rfl rfl) (.nil)) rfl rfl
theorem c104 {β1 : Bool} (n : Nat) (a0 : R93) (a1_b0_b : (List Int)) (a2_b0 : (List Int)) {r : Bool} (h : m104 n a0 a1_b0_b a2_b0 = some r) : Spec Try.prog 104 [1,2,3] [.agg [iW a0.f0,iW a0.f1],.ptr 1 0,.ptr 3 0] [(1,⟨28,false,[.own 2 1 0 a1_b0_b.length]⟩),(2,⟨3,true,a1_b0_b.flatMap eW⟩),(3,⟨28,false,[rW β1 a2_b0 eW]⟩)] (bW r) [(1,⟨28,false,[.own 2 1 0 a1_b0_b.length]⟩),(2,⟨3,true,a1_b0_b.flatMap eW⟩),(3,⟨28,false,[rW β1 a2_b0 eW]⟩)] := by
 refine Spec.of (fn := Try.f104) Try.func104 Try.ntmps104 rfl rfl (le1 rfl) (fun w0 Zs Zb T0 ι0 => ?_)
 unfold m104 at h
 refine AWP.seq ?_
 refine AWP.rg (.cons (.box (t := 4) (n := 2) (l1 rfl) (nm rfl) (.t rfl) (by first | exact ⟨rfl,rfl⟩ | rfl) rfl)<| .cons (.assign (l1 rfl) (.const _ _ _))<| ARun.nil _ _ _) ?_
 refine AWP.vc (s' := ⟨[(1,.ptr 1 0),(2,.ptr 3 0),(3,.ptr 4 0)],[(4,⟨93,false,[iW a0.f0,iW a0.f1]⟩),(1,⟨28,false,[.own 2 1 0 a1_b0_b.length]⟩),(2,⟨3,true,a1_b0_b.flatMap eW⟩),(3,⟨28,false,[rW β1 a2_b0 eW]⟩)]⟩) (VC.sub (.of rfl) (.of rfl)) ?_
 refine AWP.seq ?_
 obtain ⟨y_1,hy_1,h⟩ := bindS h
 obtain ⟨y_2,hy_2,h⟩ := bindS h
 obtain ⟨y_3,hy_3,h⟩ := bindS h
 refine AWP.draw (s' := ⟨[(4,bW ((decide (y_1 < (a2_b0.length : Int))) && (decide (y_3 ≤ y_2))))],[(4,⟨93,false,[iW a0.f0,iW a0.f1]⟩),(1,⟨28,false,[.own 2 1 0 a1_b0_b.length]⟩),(2,⟨3,true,a1_b0_b.flatMap eW⟩),(3,⟨28,false,[rW β1 a2_b0 eW]⟩)]⟩) mixed [⟨1,.ptr 1 0,none,[]⟩,⟨2,.ptr 3 0,none,[]⟩,⟨3,.ptr 4 0,none,[]⟩,⟨5,.own 2 1 0 a1_b0_b.length,some 0,[]⟩,⟨6,.ptr 4 (0 + 1),some 1,[]⟩,⟨7,iW a0.f1,some 2,[]⟩,⟨8,.ptr 2 (0 + (a0.f1).toNat * 1),some 3,[]⟩,⟨9,iW y_1,some 4,[]⟩,⟨10,rW β1 a2_b0 eW,some 5,[]⟩,⟨11,iW (a2_b0.length : Int),some 6,[]⟩,⟨12,bW (decide (y_1 < (a2_b0.length : Int))),some 7,[]⟩,⟨13,bW (decide (y_1 < (a2_b0.length : Int))),some 8,[]⟩,⟨14,.gd (decide (y_1 < (a2_b0.length : Int))) (.own 2 1 0 a1_b0_b.length),some 9,[]⟩,⟨15,.gd (decide (y_1 < (a2_b0.length : Int))) (.ptr 4 (0 + 0)),some 10,[]⟩,⟨16,.gd (decide (y_1 < (a2_b0.length : Int))) (iW a0.f0),some 11,[]⟩,⟨17,.gd (decide (y_1 < (a2_b0.length : Int))) (.ptr 2 (0 + (a0.f0).toNat * 1)),some 12,[]⟩,⟨18,.gd (decide (y_1 < (a2_b0.length : Int))) (iW y_2),some 13,[]⟩,⟨19,.gd (decide (y_1 < (a2_b0.length : Int))) (.own 2 1 0 a1_b0_b.length),some 14,[]⟩,⟨20,.gd (decide (y_1 < (a2_b0.length : Int))) (.ptr 4 (0 + 1)),some 15,[]⟩,⟨21,.gd (decide (y_1 < (a2_b0.length : Int))) (iW a0.f1),some 16,[]⟩,⟨22,.gd (decide (y_1 < (a2_b0.length : Int))) (.ptr 2 (0 + (a0.f1).toNat * 1)),some 17,[]⟩,⟨23,.gd (decide (y_1 < (a2_b0.length : Int))) (iW y_3),some 18,[]⟩,⟨24,.gd (decide (y_1 < (a2_b0.length : Int))) (bW (decide (y_3 ≤ y_2))),some 19,[]⟩,⟨25,bW ((decide (y_1 < (a2_b0.length : Int))) && (decide (y_3 ≤ y_2))),some 20,[]⟩,⟨4,bW ((decide (y_1 < (a2_b0.length : Int))) && (decide (y_3 ≤ y_2))),some 21,[]⟩] [⟨[0],0,0,some (5,.own 2 1 0 a1_b0_b.length),[]⟩,⟨[2],0,0,some (6,.ptr 4 (0 + 1)),[]⟩,⟨[4],0,0,some (7,iW a0.f1),[]⟩,⟨[3,5],0,0,some (8,.ptr 2 (0 + (a0.f1).toNat * 1)),[]⟩,⟨[6],0,0,some (9,iW y_1),[]⟩,⟨[1],0,0,some (10,rW β1 a2_b0 eW),[]⟩,⟨[8],0,0,some (11,iW (a2_b0.length : Int)),[]⟩,⟨[7,9],0,0,some (12,bW (decide (y_1 < (a2_b0.length : Int)))),[]⟩,⟨[10],0,0,some (13,bW (decide (y_1 < (a2_b0.length : Int)))),[]⟩,⟨[11,0],0,0,some (14,.gd (decide (y_1 < (a2_b0.length : Int))) (.own 2 1 0 a1_b0_b.length)),[]⟩,⟨[11,2],0,0,some (15,.gd (decide (y_1 < (a2_b0.length : Int))) (.ptr 4 (0 + 0))),[]⟩,⟨[11,13],0,0,some (16,.gd (decide (y_1 < (a2_b0.length : Int))) (iW a0.f0)),[]⟩,⟨[11,12,14],0,0,some (17,.gd (decide (y_1 < (a2_b0.length : Int))) (.ptr 2 (0 + (a0.f0).toNat * 1))),[]⟩,⟨[11,15],0,0,some (18,.gd (decide (y_1 < (a2_b0.length : Int))) (iW y_2)),[]⟩,⟨[11,0],0,0,some (19,.gd (decide (y_1 < (a2_b0.length : Int))) (.own 2 1 0 a1_b0_b.length)),[]⟩,⟨[11,2],0,0,some (20,.gd (decide (y_1 < (a2_b0.length : Int))) (.ptr 4 (0 + 1))),[]⟩,⟨[11,18],0,0,some (21,.gd (decide (y_1 < (a2_b0.length : Int))) (iW a0.f1)),[]⟩,⟨[11,17,19],0,0,some (22,.gd (decide (y_1 < (a2_b0.length : Int))) (.ptr 2 (0 + (a0.f1).toNat * 1))),[]⟩,⟨[11,20],0,0,some (23,.gd (decide (y_1 < (a2_b0.length : Int))) (iW y_3)),[]⟩,⟨[11,16,21],0,0,some (24,.gd (decide (y_1 < (a2_b0.length : Int))) (bW (decide (y_3 ≤ y_2)))),[]⟩,⟨[11,22],0,0,some (25,bW ((decide (y_1 < (a2_b0.length : Int))) && (decide (y_3 ≤ y_2)))),[]⟩,⟨[23],0,0,some (4,bW ((decide (y_1 < (a2_b0.length : Int))) && (decide (y_3 ≤ y_2)))),[]⟩] [] [[(4,⟨93,false,[iW a0.f0,iW a0.f1]⟩),(1,⟨28,false,[.own 2 1 0 a1_b0_b.length]⟩),(2,⟨3,true,a1_b0_b.flatMap eW⟩),(3,⟨28,false,[rW β1 a2_b0 eW]⟩)]] [[],[],[1],[0,1,2],[0,1,2,3],[],[5],[0,1,2,3,4,5,6],[0,1,2,3,4,5,6,7],[0,1,2,3,4,5,6,7,8],[0,1,2,3,4,5,6,7,8],[0,1,2,3,4,5,6,7,8,10],[0,1,2,3,4,5,6,7,8,9,10,11],[0,1,2,3,4,5,6,7,8,9,10,11,12],[0,1,2,3,4,5,6,7,8],[0,1,2,3,4,5,6,7,8],[0,1,2,3,4,5,6,7,8,15],[0,1,2,3,4,5,6,7,8,14,15,16],[0,1,2,3,4,5,6,7,8,14,15,16,17],[0,1,2,3,4,5,6,7,8,9,10,11,12,13,14,15,16,17,18],[0,1,2,3,4,5,6,7,8,9,10,11,12,13,14,15,16,17,18,19],[0,1,2,3,4,5,6,7,8,9,10,11,12,13,14,15,16,17,18,19,20]] (by kernel_rfl) (by kernel_rfl) (BornL.ok (.o<| .o<| .o<| .b rfl rfl<| .b rfl rfl<| .b rfl rfl<| .b rfl rfl<| .b rfl rfl<| .b rfl rfl<| .b rfl rfl<| .b rfl rfl<| .b rfl rfl<| .b rfl rfl<| .b rfl rfl<| .b rfl rfl<| .b rfl rfl<| .b rfl rfl<| .b rfl rfl<| .b rfl rfl<| .b rfl rfl<| .b rfl rfl<| .b rfl rfl<| .b rfl rfl<| .b rfl rfl<| .b rfl rfl<| .n)) (BaseL.ok (.o rfl<| .o rfl<| .o rfl<| .b<| .b<| .b<| .b<| .b<| .b<| .b<| .b<| .b<| .b<| .b<| .b<| .b<| .b<| .b<| .b<| .b<| .b<| .b<| .b<| .b<| .b<| .n)) rfl (by decide) (allLt rfl) (.read rfl (.c (.put (fun E hE => .loadP (l1 rfl) (.tmp (hE.at (k := 0) rfl)) one28 rfl rfl rfl)) .n)<| .read rfl (.c (.put (fun E hE => .idxP (l1 rfl) (.tmp (hE.at (k := 0) rfl)) (.const _ _ _) Try.underlying93 sz3 (by decide) rfl)) .n)<| .read rfl (.c (.put (fun E hE => .loadP (l1 rfl) (.tmp (hE.at (k := 0) rfl)) one3 rfl rfl rfl)) .n)<| .read rfl (.c (.put (fun E hE => .idxOwn (l1 rfl) (.tmp (hE.at (k := 0) rfl)) (.tmp (hE.at (k := 1) rfl)) Try.underlying28 sz3 rfl hy_1)) .n)<| .read rfl (.c (.put (fun E hE => .loadP (l1 rfl) (.tmp (hE.at (k := 0) rfl)) one3 rfl (cell_at1 (encI_len .i64) hy_1) rfl)) .n)<| .read rfl (.c (.put (fun E hE => .loadP (l1 rfl) (.tmp (hE.at (k := 0) rfl)) one28 rfl rfl rfl)) .n)<| .pure rfl (fun H => .put (fun E hE => .lenRd (l1 rfl) (.tmp (hE.at (k := 0) rfl)) Try.underlying28))<| .pure rfl (fun H => .put (fun E hE => .lss (l1 rfl) (.tmp (hE.at (k := 0) rfl)) (.tmp (hE.at (k := 1) rfl))))<| .pure rfl (fun H => .put (fun E hE => .move (l1 rfl) (.tmp (hE.at (k := 0) rfl))))<| .read rfl (.c (.gput (b := (decide (y_1 < (a2_b0.length : Int)))) (want := true) (j := 8) (dj := 13) rfl (l1 rfl) (l1 rfl) (fun E hE => hE.at (k := 0) rfl) (fun hg E hE => .loadP (l1 rfl) (.tmp (hE.at (k := 1) rfl)) one28 rfl rfl rfl)) .n)<| .read rfl (.c (.gput (b := (decide (y_1 < (a2_b0.length : Int)))) (want := true) (j := 8) (dj := 13) rfl (l1 rfl) (l1 rfl) (fun E hE => hE.at (k := 0) rfl) (fun hg E hE => .idxP (l1 rfl) (.tmp (hE.at (k := 1) rfl)) (.const _ _ _) Try.underlying93 sz3 (by decide) rfl)) .n)<| .read rfl (.c (.gput (b := (decide (y_1 < (a2_b0.length : Int)))) (want := true) (j := 8) (dj := 13) rfl (l1 rfl) (l1 rfl) (fun E hE => hE.at (k := 0) rfl) (fun hg E hE => .loadP (l1 rfl) (.gd hg (.tmp (hE.at (k := 1) rfl))) one3 rfl rfl rfl)) .n)<| .read rfl (.c (.gput (b := (decide (y_1 < (a2_b0.length : Int)))) (want := true) (j := 8) (dj := 13) rfl (l1 rfl) (l1 rfl) (fun E hE => hE.at (k := 0) rfl) (fun hg E hE => .idxOwn (l1 rfl) (.gd hg (.tmp (hE.at (k := 1) rfl))) (.gd hg (.tmp (hE.at (k := 2) rfl))) Try.underlying28 sz3 rfl (gdB hy_2 hg))) .n)<| .read rfl (.c (.gput (b := (decide (y_1 < (a2_b0.length : Int)))) (want := true) (j := 8) (dj := 13) rfl (l1 rfl) (l1 rfl) (fun E hE => hE.at (k := 0) rfl) (fun hg E hE => .loadP (l1 rfl) (.gd hg (.tmp (hE.at (k := 1) rfl))) one3 rfl (cell_at1 (encI_len .i64) (gdB hy_2 hg)) rfl)) .n)<| .read rfl (.c (.gput (b := (decide (y_1 < (a2_b0.length : Int)))) (want := true) (j := 8) (dj := 13) rfl (l1 rfl) (l1 rfl) (fun E hE => hE.at (k := 0) rfl) (fun hg E hE => .loadP (l1 rfl) (.tmp (hE.at (k := 1) rfl)) one28 rfl rfl rfl)) .n)<| .read rfl (.c (.gput (b := (decide (y_1 < (a2_b0.length : Int)))) (want := true) (j := 8) (dj := 13) rfl (l1 rfl) (l1 rfl) (fun E hE => hE.at (k := 0) rfl) (fun hg E hE => .idxP (l1 rfl) (.tmp (hE.at (k := 1) rfl)) (.const _ _ _) Try.underlying93 sz3 (by decide) rfl)) .n)<| .read rfl (.c (.gput (b := (decide (y_1 < (a2_b0.length : Int)))) (want := true) (j := 8) (dj := 13) rfl (l1 rfl) (l1 rfl) (fun E hE => hE.at (k := 0) rfl) (fun hg E hE => .loadP (l1 rfl) (.gd hg (.tmp (hE.at (k := 1) rfl))) one3 rfl rfl rfl)) .n)<| .read rfl (.c (.gput (b := (decide (y_1 < (a2_b0.length : Int)))) (want := true) (j := 8) (dj := 13) rfl (l1 rfl) (l1 rfl) (fun E hE => hE.at (k := 0) rfl) (fun hg E hE => .idxOwn (l1 rfl) (.gd hg (.tmp (hE.at (k := 1) rfl))) (.gd hg (.tmp (hE.at (k := 2) rfl))) Try.underlying28 sz3 rfl (gdB hy_3 hg))) .n)<| .read rfl (.c (.gput (b := (decide (y_1 < (a2_b0.length : Int)))) (want := true) (j := 8) (dj := 13) rfl (l1 rfl) (l1 rfl) (fun E hE => hE.at (k := 0) rfl) (fun hg E hE => .loadP (l1 rfl) (.gd hg (.tmp (hE.at (k := 1) rfl))) one3 rfl (cell_at1 (encI_len .i64) (gdB hy_3 hg)) rfl)) .n)<| .pure rfl (fun H => .gput (b := (decide (y_1 < (a2_b0.length : Int)))) (want := true) (j := 8) (dj := 13) rfl (l1 rfl) (l1 rfl) (fun E hE => hE.at (k := 0) rfl) (fun hg E hE => .geq (l1 rfl) (.gd hg (.tmp (hE.at (k := 1) rfl))) (.gd hg (.tmp (hE.at (k := 2) rfl)))))<| .pure rfl (fun H => .put (fun E hE => .pickAnd (l1 rfl) (.tmp (hE.at (k := 0) rfl)) (.tmp (hE.at (k := 1) rfl)) (.const _ _ _)))<| .pure rfl (fun H => .put (fun E hE => .assign (l1 rfl) (.tmp (hE.at (k := 0) rfl))))<| .nil _) (fun E hE => .c (DInv.at hE (k := 24) rfl rfl rfl)<| .n _) rfl ?_
 refine AWP.ret ?_
 obtain rfl := Option.some.inj h
 refine retJ (Res.vc (s' := ⟨[(4,bW ((decide (y_1 < (a2_b0.length : Int))) && (decide (y_3 ≤ y_2))))],[(1,⟨28,false,[.own 2 1 0 a1_b0_b.length]⟩),(2,⟨3,true,a1_b0_b.flatMap eW⟩),(3,⟨28,false,[rW β1 a2_b0 eW]⟩)]⟩) (VC.sub (.of rfl) (.of rfl)) ?_)
 refine Res.sub (H := [(1,⟨28,false,[.own 2 1 0 a1_b0_b.length]⟩),(2,⟨3,true,a1_b0_b.flatMap eW⟩),(3,⟨28,false,[rW β1 a2_b0 eW]⟩)]) (.of rfl) ?_
 exact Res.of rfl (.cons (.tmp rfl) (.nil)) rfl rfl
theorem c87x1 {β1 : Bool} {β2 : Bool} (n : Nat) (a0 : (List R93)) (a1_0_b0_b : (List Int)) (a1_1_b0 : (List Int)) {r : Int} (h : m87x1 n a0 a1_0_b0_b a1_1_b0 = some r) : Spec Try.prog 87 [1,2,3] [rW β1 a0 e93,.clo (.func 104) [] [.ptr 1 0,.ptr 3 0]] [(1,⟨28,false,[.own 2 1 0 a1_0_b0_b.length]⟩),(2,⟨3,true,a1_0_b0_b.flatMap eW⟩),(3,⟨28,false,[rW β2 a1_1_b0 eW]⟩)] (iW r) [(1,⟨28,false,[.own 2 1 0 a1_0_b0_b.length]⟩),(2,⟨3,true,a1_0_b0_b.flatMap eW⟩),(3,⟨28,false,[rW β2 a1_1_b0 eW]⟩)] := by
 refine Spec.of (fn := Try.f87) Try.func87 Try.ntmps87 rfl rfl (le1 rfl) (fun w0 Zs Zb T0 ι0 => ?_)
 unfold m87x1 at h
 refine AWP.seq ?_
 refine AWP.rg (.cons (.assign (l1 rfl) (.const _ _ _))<| ARun.nil _ _ _) ?_
 refine AWP.vc (s' := ⟨[(0,rW β1 a0 e93),(1,.clo (.func 104) [] [.ptr 1 0,.ptr 3 0])],[(1,⟨28,false,[.own 2 1 0 a1_0_b0_b.length]⟩),(2,⟨3,true,a1_0_b0_b.flatMap eW⟩),(3,⟨28,false,[rW β2 a1_1_b0 eW]⟩)]⟩) (VC.sub (.of rfl) (.of rfl)) ?_
 refine AWP.seq ?_
 refine AWP.seq ?_
 refine AWP.rg (.cons (.move (l1 rfl) (.t rfl))<| .cons (.lenRd (l1 rfl) (.t rfl) Try.underlying23)<| .cons (.move (l1 rfl) (.const _ _ _))<| ARun.nil _ _ _) ?_
 refine AWP.vc (s' := ⟨[(0,rW β1 a0 e93),(1,.clo (.func 104) [] [.ptr 1 0,.ptr 3 0]),(7,iW (a0.length : Int)),(8,iW (0 : Int))],[(1,⟨28,false,[.own 2 1 0 a1_0_b0_b.length]⟩),(2,⟨3,true,a1_0_b0_b.flatMap eW⟩),(3,⟨28,false,[rW β2 a1_1_b0 eW]⟩)]⟩) (VC.sub (.of rfl) (.of rfl)) ?_
 refine AWP.joinB' (S := fun p_10 : Unit => ⟨[],[(1,⟨28,false,[.own 2 1 0 a1_0_b0_b.length]⟩),(2,⟨3,true,a1_0_b0_b.flatMap eW⟩),(3,⟨28,false,[rW β2 a1_1_b0 eW]⟩)]⟩) h (fun p_10 h => ?_) (fun k_11 h => ?_)
 ·refine AWP.seq ?_
  refine AWP.rg (.cons (.assign (l1 rfl) (.const _ _ _))<| ARun.nil _ _ _) ?_
  refine AWP.ret ?_
  obtain rfl := Option.some.inj h
  refine retJ (Res.vc (s' := ⟨[(4,iW (-1 : Int))],[(1,⟨28,false,[.own 2 1 0 a1_0_b0_b.length]⟩),(2,⟨3,true,a1_0_b0_b.flatMap eW⟩),(3,⟨28,false,[rW β2 a1_1_b0 eW]⟩)]⟩) (VC.sub (.of rfl) (.of rfl)) ?_)
  refine Res.sub (H := [(1,⟨28,false,[.own 2 1 0 a1_0_b0_b.length]⟩),(2,⟨3,true,a1_0_b0_b.flatMap eW⟩),(3,⟨28,false,[rW β2 a1_1_b0 eW]⟩)]) (.of rfl) ?_
  exact Res.of rfl (.cons (.tmp rfl) (.nil)) rfl rfl
 ·refine AWP.vc (s' := ⟨[(0,rW β1 a0 e93),(1,.clo (.func 104) [] [.ptr 1 0,.ptr 3 0]),(7,iW (a0.length : Int)),(8,iW (0 : Int))],[(1,⟨28,false,[.own 2 1 0 a1_0_b0_b.length]⟩),(2,⟨3,true,a1_0_b0_b.flatMap eW⟩),(3,⟨28,false,[rW β2 a1_1_b0 eW]⟩)]⟩) (VC.sub (.of rfl) (.of rfl)) ?_
  refine AWP.loopM (S := fun x_5 : Int => ⟨[(0,rW β1 a0 e93),(1,.clo (.func 104) [] [.ptr 1 0,.ptr 3 0]),(7,iW (a0.length : Int)),(8,iW x_5)],[(1,⟨28,false,[.own 2 1 0 a1_0_b0_b.length]⟩),(2,⟨3,true,a1_0_b0_b.flatMap eW⟩),(3,⟨28,false,[rW β2 a1_1_b0 eW]⟩)]⟩) (x := (0 : Int)) (fun nx_6 x_5 h => ?_) h
  unfold m87x1_L1 at h
  refine AWP.seq ?_
  refine AWP.rg (.cons (.lss (l1 rfl) (.t rfl) (.t rfl))<| ARun.nil _ _ _) ?_
  refine AWP.vc (s' := ⟨[(0,rW β1 a0 e93),(1,.clo (.func 104) [] [.ptr 1 0,.ptr 3 0]),(7,iW (a0.length : Int)),(8,iW x_5),(9,bW (decide (x_5 < (a0.length : Int))))],[(1,⟨28,false,[.own 2 1 0 a1_0_b0_b.length]⟩),(2,⟨3,true,a1_0_b0_b.flatMap eW⟩),(3,⟨28,false,[rW β2 a1_1_b0 eW]⟩)]⟩) (VC.sub (.of rfl) (.of rfl)) ?_
  refine AWP.seq ?_
  refine AWP.cond (.t rfl) (fun hc => ?_) (fun hc => ?_)
  ·have h := iteT hc h
   refine AWP.skip ?_
   refine AWP.seq ?_
   refine AWP.block ?_
   refine AWP.seq ?_
   refine AWP.rg (.cons (.move (l1 rfl) (.t rfl))<| .cons (.assign (l1 rfl) (.t rfl))<| ARun.nil _ _ _) ?_
   refine AWP.vc (s' := ⟨[(0,rW β1 a0 e93),(1,.clo (.func 104) [] [.ptr 1 0,.ptr 3 0]),(7,iW (a0.length : Int)),(8,iW x_5),(5,iW x_5)],[(1,⟨28,false,[.own 2 1 0 a1_0_b0_b.length]⟩),(2,⟨3,true,a1_0_b0_b.flatMap eW⟩),(3,⟨28,false,[rW β2 a1_1_b0 eW]⟩)]⟩) (VC.sub (.of rfl) (.of rfl)) ?_
   refine AWP.seq ?_
   obtain ⟨y_7,hy_7,h⟩ := bindS h
   obtain ⟨y_8,hy_8,h⟩ := bindS h
   refine AWP.rg (.cons (.move (l1 rfl) (.t rfl))<| .cons (.move (l1 rfl) (.t rfl))<| .cons (.move (l1 rfl) (.t rfl))<| .cons (.indexRd (enc := e93) (l1 rfl) (.t rfl) (.t rfl) Try.underlying23 sz93 encR93_len rfl hy_7)<| .cons (.loadRA (out := [iW y_7.f0,iW y_7.f1]) (l1 rfl) (.t rfl) agg93 (Nat.le_of_eq (Eq.symm (encR93_len _))) rfl)<| .cons (.keep (bw := false) (AStep.callV (us' := []) (avs := [.agg [iW ((R93.mk y_7.f0 y_7.f1).f0),iW ((R93.mk y_7.f0 y_7.f1).f1)]]) (cs' := [.ptr 1 0,.ptr 3 0]) (σ := sgT [(1,1),(2,2),(3,3)]) (bw := false) (l1 rfl) (.t rfl) (c104 (β1 := β2) n (R93.mk y_7.f0 y_7.f1) a1_0_b0_b a1_1_b0 hy_8) (.nil) (.cons (.t rfl) (.ren rfl) (.nil)) (.cons (.ren rfl) (.cons (.ren rfl) (.nil))) (CallOk.mk' (.c rfl (.c rfl (.c rfl (.n)))) rfl) (fun _ h => by cases h)) (CallOk.mk' (.c rfl (.c rfl (.c rfl (.n)))) rfl) rfl rfl)<| ARun.nil _ _ _) ?_
   refine AWP.vc (s' := ⟨[(0,rW β1 a0 e93),(1,.clo (.func 104) [] [.ptr 1 0,.ptr 3 0]),(7,iW (a0.length : Int)),(8,iW x_5),(5,iW x_5),(16,bW y_8)],[(1,⟨28,false,[.own 2 1 0 a1_0_b0_b.length]⟩),(2,⟨3,true,a1_0_b0_b.flatMap eW⟩),(3,⟨28,false,[rW β2 a1_1_b0 eW]⟩)]⟩) (VC.sub (.of rfl) (.of rfl)) ?_
   refine AWP.cond (.t rfl) (fun hc => ?_) (fun hc => ?_)
   ·have h := iteT hc h
    refine AWP.seq ?_
    refine AWP.rg (.cons (.move (l1 rfl) (.t rfl))<| .cons (.assign (l1 rfl) (.t rfl))<| ARun.nil _ _ _) ?_
    refine AWP.ret ?_
    obtain rfl := Option.some.inj h
    refine retJ (Res.vc (s' := ⟨[(4,iW x_5)],[(1,⟨28,false,[.own 2 1 0 a1_0_b0_b.length]⟩),(2,⟨3,true,a1_0_b0_b.flatMap eW⟩),(3,⟨28,false,[rW β2 a1_1_b0 eW]⟩)]⟩) (VC.sub (.of rfl) (.of rfl)) ?_)
    refine Res.sub (H := [(1,⟨28,false,[.own 2 1 0 a1_0_b0_b.length]⟩),(2,⟨3,true,a1_0_b0_b.flatMap eW⟩),(3,⟨28,false,[rW β2 a1_1_b0 eW]⟩)]) (.of rfl) ?_
    exact Res.of rfl (.cons (.tmp rfl) (.nil)) rfl rfl
   ·have h := iteF hc h
    refine AWP.skip ?_
    obtain ⟨t8_9,ht8_9,h⟩ := letS h
    refine AWP.rg (.cons (.add (l1 rfl) (.t rfl) (.const _ _ _))<| .cons (.move (l1 rfl) (.t rfl))<| ARun.nil _ _ _) ?_
    exact endJ t8_9 h (by subst ht8_9; exact VC.sub (.of rfl) (.of rfl))
  ·have h := iteF hc h
   refine AWP.exit ?_
   exact endJ () h (VC.sub (.n _) (.of rfl))
theorem c57x1 {β1 : Bool} {β2 : Bool} (n : Nat) (a0 : (List R93)) (a1_0_b0_b : (List Int)) (a1_1_b0 : (List Int)) {r : Bool} (h : m57x1 n a0 a1_0_b0_b a1_1_b0 = some r) : Spec Try.prog 57 [1,2,3] [rW β1 a0 e93,.clo (.func 104) [] [.ptr 1 0,.ptr 3 0]] [(1,⟨28,false,[.own 2 1 0 a1_0_b0_b.length]⟩),(2,⟨3,true,a1_0_b0_b.flatMap eW⟩),(3,⟨28,false,[rW β2 a1_1_b0 eW]⟩)] (bW r) [(1,⟨28,false,[.own 2 1 0 a1_0_b0_b.length]⟩),(2,⟨3,true,a1_0_b0_b.flatMap eW⟩),(3,⟨28,false,[rW β2 a1_1_b0 eW]⟩)] := by
 refine Spec.of (fn := Try.f57) Try.func57 Try.ntmps57 rfl rfl (le1 rfl) (fun w0 Zs Zb T0 ι0 => ?_)
 unfold m57x1 at h
 refine AWP.seq ?_
 refine AWP.rg (.cons (.assign (l1 rfl) (.const _ _ _))<| ARun.nil _ _ _) ?_
 refine AWP.vc (s' := ⟨[(0,rW β1 a0 e93),(1,.clo (.func 104) [] [.ptr 1 0,.ptr 3 0])],[(1,⟨28,false,[.own 2 1 0 a1_0_b0_b.length]⟩),(2,⟨3,true,a1_0_b0_b.flatMap eW⟩),(3,⟨28,false,[rW β2 a1_1_b0 eW]⟩)]⟩) (VC.sub (.of rfl) (.of rfl)) ?_
 refine AWP.seq ?_
 obtain ⟨y_1,hy_1,h⟩ := bindS h
 refine AWP.rg (.cons (.move (l1 rfl) (.t rfl))<| .cons (.move (l1 rfl) (.t rfl))<| .cons (.keep (bw := false) (AStep.call (σ := sgT [(1,1),(2,2),(3,3)]) (bw := false) (l1 rfl) (c87x1 (β1 := β1) (β2 := β2) n a0 a1_0_b0_b a1_1_b0 hy_1) (.cons (.t rfl) (.ren rfl) (.cons (.t rfl) (.ren rfl) (.nil))) (CallOk.mk' (.c rfl (.c rfl (.c rfl (.n)))) rfl)) (CallOk.mk' (.c rfl (.c rfl (.c rfl (.n)))) rfl) rfl rfl)<| .cons (.geq (l1 rfl) (.t rfl) (.const _ _ _))<| .cons (.assign (l1 rfl) (.t rfl))<| ARun.nil _ _ _) ?_
 refine AWP.ret ?_
 obtain rfl := Option.some.inj h
 refine retJ (Res.vc (s' := ⟨[(4,bW (decide ((0 : Int) ≤ y_1)))],[(1,⟨28,false,[.own 2 1 0 a1_0_b0_b.length]⟩),(2,⟨3,true,a1_0_b0_b.flatMap eW⟩),(3,⟨28,false,[rW β2 a1_1_b0 eW]⟩)]⟩) (VC.sub (.of rfl) (.of rfl)) ?_)
 refine Res.sub (H := [(1,⟨28,false,[.own 2 1 0 a1_0_b0_b.length]⟩),(2,⟨3,true,a1_0_b0_b.flatMap eW⟩),(3,⟨28,false,[rW β2 a1_1_b0 eW]⟩)]) (.of rfl) ?_
 exact Res.of rfl (.cons (.tmp rfl) (.nil)) rfl rfl
theorem c88 {β1 : Bool} {β2 : Bool} {β3 : Bool} (n : Nat) (a0 : R24) (a1 : (List Int)) {r : Bool} (h : m88 n a0 a1 = some r) : Spec Try.prog 88 [] [.agg (pW β1 β2 a0),rW β3 a1 eW] [] (bW r) [] := by
 refine Spec.of (fn := Try.f88) Try.func88 Try.ntmps88 rfl rfl (le1 rfl) (fun w0 Zs Zb T0 ι0 => ?_)
 unfold m88 at h
 refine AWP.seq ?_
 refine AWP.rg (.cons (.box (t := 1) (n := 2) (l1 rfl) (nm rfl) (.t rfl) (by first | exact ⟨rfl,rfl⟩ | rfl) rfl)<| .cons (.box (t := 2) (n := 1) (l1 rfl) (nm rfl) (.t rfl) (by first | exact ⟨rfl,rfl⟩ | rfl) rfl)<| .cons (.assign (l1 rfl) (.const _ _ _))<| ARun.nil _ _ _) ?_
 refine AWP.vc (s' := ⟨[(2,.ptr 1 0),(3,.ptr 2 0)],[(2,⟨28,false,[rW β3 a1 eW]⟩),(1,⟨32,false,(pW β1 β2 a0)⟩)]⟩) (VC.sub (.of rfl) (.of rfl)) ?_
 refine AWP.seq ?_
 obtain ⟨y_1,hy_1,h⟩ := bindS h
 refine AWP.rg (.cons (.loadP (l1 rfl) (.t rfl) one28 rfl rfl rfl)<| .cons (.lenRd (l1 rfl) (.t rfl) Try.underlying28)<| .cons (.buildSlice (t := 3) (out := ([(a1.length : Int)] : List Int).flatMap eW) (l1 rfl) (nm rfl) (.cons (.t rfl) (by first | exact ⟨rfl,rfl⟩ | rfl) (.nil)) Try.underlying28 zero3 el3 (by decide) (by decide) rfl (still_all (encI_still .i64) _))<| .cons (.fieldP (l1 rfl) (.t rfl) fld32_0)<| .cons (.loadP (l1 rfl) (.t rfl) one22 rfl rfl rfl)<| .cons (.lenRd (l1 rfl) (.t rfl) Try.underlying22)<| .cons (.call (σ := fun _ => 4) (bw := true) (l1 rfl) (c102o (β1 := true) n ([(a1.length : Int)] : List Int) (a0.Pq.length : Int) hy_1) (.cons (.t rfl) (.lendRow rfl rfl (encI_len .i64) rfl) (.cons (.t rfl) (.ren rfl) (.nil))) (CallOk.mk' (.n) rfl))<| .cons (.alloc (t := 5) (k := ⟨28,false,[.sc (.slice none 0 0)]⟩) (l1 rfl) (nm rfl) zero28 rfl rfl)<| .cons (.storeP (.t rfl) (.t rfl) sz28 rfl (l1 rfl) rfl (by intro h; cases h) rfl)<| ARun.nil _ _ _) ?_
 refine AWP.vc (s' := ⟨[(2,.ptr 1 0),(3,.ptr 2 0),(5,.ptr 5 0)],[(5,⟨28,false,[.own 4 1 0 y_1.length]⟩),(4,⟨3,true,y_1.flatMap eW⟩),(2,⟨28,false,[rW β3 a1 eW]⟩),(1,⟨32,false,(pW β1 β2 a0)⟩)]⟩) (VC.sub (.of rfl) (.of rfl)) ?_
 refine AWP.seq ?_
 refine AWP.seq ?_
 refine AWP.rg (.cons (.loadP (l1 rfl) (.t rfl) one28 rfl rfl rfl)<| .cons (.lenRd (l1 rfl) (.t rfl) Try.underlying28)<| .cons (.move (l1 rfl) (.const _ _ _))<| ARun.nil _ _ _) ?_
 refine AWP.vc (s' := ⟨[(2,.ptr 1 0),(3,.ptr 2 0),(5,.ptr 5 0),(16,rW β3 a1 eW),(17,iW (a1.length : Int)),(18,iW (0 : Int))],[(5,⟨28,false,[.own 4 1 0 y_1.length]⟩),(4,⟨3,true,y_1.flatMap eW⟩),(2,⟨28,false,[rW β3 a1 eW]⟩),(1,⟨32,false,(pW β1 β2 a0)⟩)]⟩) (VC.sub (.of rfl) (.of rfl)) ?_
 refine AWP.joinB' (S := fun p_21 : (List Int) => ⟨[(2,.ptr 1 0),(3,.ptr 2 0),(5,.ptr 5 0)],[(1,⟨32,false,(pW β1 β2 a0)⟩),(2,⟨28,false,[rW β3 a1 eW]⟩),(5,⟨28,false,[.own 4 1 0 p_21.length]⟩),(4,⟨3,true,p_21.flatMap eW⟩)]⟩) h (fun p_21 h => ?_) (fun k_22 h => ?_)
 ·refine AWP.seq ?_
  refine AWP.rg (.cons (.makeFunc (l1 rfl) (.nil) (.cons (.t rfl) (.cons (.t rfl) (.nil))))<| .cons (.assign (l1 rfl) (.t rfl))<| ARun.nil _ _ _) ?_
  refine AWP.vc (s' := ⟨[(2,.ptr 1 0),(3,.ptr 2 0),(8,.clo (.func 104) [] [.ptr 5 0,.ptr 2 0])],[(1,⟨32,false,(pW β1 β2 a0)⟩),(2,⟨28,false,[rW β3 a1 eW]⟩),(5,⟨28,false,[.own 4 1 0 p_21.length]⟩),(4,⟨3,true,p_21.flatMap eW⟩)]⟩) (VC.sub (.of rfl) (.of rfl)) ?_
  refine AWP.seq ?_
  obtain ⟨y_23,hy_23,h⟩ := bindS h
  obtain ⟨y_24,hy_24,h⟩ := bindS h
  refine AWP.rg (.cons (.loadP (l1 rfl) (.t rfl) one28 rfl rfl rfl)<| .cons (.lenRd (l1 rfl) (.t rfl) Try.underlying28)<| .cons (.gtr (l1 rfl) (.t rfl) (.const _ _ _))<| .cons (.move (l1 rfl) (.t rfl))<| .guard (j := 3) (dj := 49) rfl (l1 rfl) rfl (l1 rfl) (fun hg => .loadP (l1 rfl) (.t rfl) one28 rfl rfl rfl)<| .guard (j := 3) (dj := 49) rfl (l1 rfl) rfl (l1 rfl) (fun hg => .indexRd (enc := eW) (l1 rfl) (.gd hg (.t rfl)) (.const _ _ _) Try.underlying28 sz3 (encI_len .i64) rfl (gdB hy_23 hg))<| .guard (j := 3) (dj := 49) rfl (l1 rfl) rfl (l1 rfl) (fun hg => .loadR (v := iW y_23) (l1 rfl) (.gd hg (.t rfl)) one3 rfl)<| .guard (j := 3) (dj := 49) rfl (l1 rfl) rfl (l1 rfl) (fun hg => .eql (l1 rfl) (.gd hg (.t rfl)) (.const _ _ _))<| .cons (.pickAnd (l1 rfl) (.t rfl) (.t rfl) (.const _ _ _))<| .cons (.move (l1 rfl) (.t rfl))<| .guard (j := 9) (dj := 55) rfl (l1 rfl) rfl (l1 rfl) (fun hg => .fieldP (l1 rfl) (.t rfl) fld32_1)<| .guard (j := 9) (dj := 55) rfl (l1 rfl) rfl (l1 rfl) (fun hg => .loadP (l1 rfl) (.gd hg (.t rfl)) one23 rfl rfl rfl)<| .guard (j := 9) (dj := 55) rfl (l1 rfl) rfl (l1 rfl) (fun hg => .move (l1 rfl) (.t rfl))<| .guard (j := 9) (dj := 55) rfl (l1 rfl) rfl (l1 rfl) (fun hg => .keep (bw := false) (AStep.call (σ := sgT [(1,5),(2,4),(3,2)]) (bw := false) (l1 rfl) (c57x1 (β1 := β2) (β2 := β3) n a0.Bq p_21 a1 (gdB hy_24 hg)) (.cons (.gd hg (.t rfl)) (.ren rfl) (.cons (.gd hg (.t rfl)) (.ren rfl) (.nil))) (CallOk.mk' (.c rfl (.c rfl (.c rfl (.n)))) rfl)) (CallOk.mk' (.c rfl (.c rfl (.c rfl (.n)))) rfl) rfl rfl)<| .guard (j := 9) (dj := 55) rfl (l1 rfl) rfl (l1 rfl) (fun hg => .not (l1 rfl) (.gd hg (.t rfl)))<| .cons (.pickAnd (l1 rfl) (.t rfl) (.t rfl) (.const _ _ _))<| .cons (.assign (l1 rfl) (.t rfl))<| ARun.nil _ _ _) ?_
  refine AWP.ret ?_
  obtain rfl := Option.some.inj h
  refine retJ (Res.vc (s' := ⟨[(4,bW (((decide ((0 : Int) < (a1.length : Int))) && (decide (y_23 = (0 : Int)))) && (!y_24)))],[]⟩) (VC.sub (.of rfl) (.n _)) ?_)
  refine Res.drop (H := []) rfl ?_
  exact Res.of rfl (.cons (.tmp rfl) (.nil)) rfl rfl
 ·refine AWP.vc (s' := ⟨[(2,.ptr 1 0),(3,.ptr 2 0),(5,.ptr 5 0),(16,rW β3 a1 eW),(17,iW (a1.length : Int)),(18,iW (0 : Int))],[(1,⟨32,false,(pW β1 β2 a0)⟩),(2,⟨28,false,[rW β3 a1 eW]⟩),(5,⟨28,false,[.own 4 1 0 y_1.length]⟩),(4,⟨3,true,y_1.flatMap eW⟩)]⟩) (VC.sub (.of rfl) (.of rfl)) ?_
  refine AWP.loopM (S := fun x_14 : Int × (List Int) => ⟨[(2,.ptr 1 0),(3,.ptr 2 0),(5,.ptr 5 0),(16,rW β3 a1 eW),(17,iW (a1.length : Int)),(18,iW x_14.1)],[(1,⟨32,false,(pW β1 β2 a0)⟩),(2,⟨28,false,[rW β3 a1 eW]⟩),(5,⟨28,false,[.own 4 1 0 x_14.2.length]⟩),(4,⟨3,true,x_14.2.flatMap eW⟩)]⟩) (x := ((0 : Int),y_1)) (fun nx_15 x_14 h => ?_) h
  unfold m88_L1 at h
  refine AWP.seq ?_
  refine AWP.rg (.cons (.lss (l1 rfl) (.t rfl) (.t rfl))<| ARun.nil _ _ _) ?_
  refine AWP.vc (s' := ⟨[(2,.ptr 1 0),(3,.ptr 2 0),(5,.ptr 5 0),(16,rW β3 a1 eW),(17,iW (a1.length : Int)),(18,iW x_14.1),(19,bW (decide (x_14.1 < (a1.length : Int))))],[(1,⟨32,false,(pW β1 β2 a0)⟩),(2,⟨28,false,[rW β3 a1 eW]⟩),(5,⟨28,false,[.own 4 1 0 x_14.2.length]⟩),(4,⟨3,true,x_14.2.flatMap eW⟩)]⟩) (VC.sub (.of rfl) (.of rfl)) ?_
  refine AWP.seq ?_
  refine AWP.cond (.t rfl) (fun hc => ?_) (fun hc => ?_)
  ·have h := iteT hc h
   refine AWP.skip ?_
   refine AWP.seq ?_
   refine AWP.block ?_
   refine AWP.seq ?_
   obtain ⟨y_16,hy_16,h⟩ := bindS h
   refine AWP.rg (.cons (.move (l1 rfl) (.t rfl))<| .cons (.indexRd (enc := eW) (l1 rfl) (.t rfl) (.t rfl) Try.underlying28 sz3 (encI_len .i64) rfl hy_16)<| .cons (.loadR (v := iW y_16) (l1 rfl) (.t rfl) one3 rfl)<| .cons (.assign (l1 rfl) (.t rfl))<| .cons (.assign (l1 rfl) (.t rfl))<| ARun.nil _ _ _) ?_
   refine AWP.vc (s' := ⟨[(2,.ptr 1 0),(3,.ptr 2 0),(5,.ptr 5 0),(16,rW β3 a1 eW),(17,iW (a1.length : Int)),(18,iW x_14.1),(6,iW x_14.1),(7,iW y_16)],[(1,⟨32,false,(pW β1 β2 a0)⟩),(2,⟨28,false,[rW β3 a1 eW]⟩),(5,⟨28,false,[.own 4 1 0 x_14.2.length]⟩),(4,⟨3,true,x_14.2.flatMap eW⟩)]⟩) (VC.sub (.of rfl) (.of rfl)) ?_
   refine AWP.seq ?_
   refine AWP.seq ?_
   obtain ⟨y_17,hy_17,h⟩ := bindS h
   refine AWP.draw (s' := ⟨[(2,.ptr 1 0),(3,.ptr 2 0),(5,.ptr 5 0),(6,iW x_14.1),(7,iW y_16),(16,rW β3 a1 eW),(17,iW (a1.length : Int)),(18,iW x_14.1),(39,bW (((decide (y_16 < (0 : Int))) || (decide ((x_14.2.length : Int) ≤ y_16))) || (decide (y_17 < (a1.length : Int)))))],[(1,⟨32,false,(pW β1 β2 a0)⟩),(2,⟨28,false,[rW β3 a1 eW]⟩),(5,⟨28,false,[.own 4 1 0 x_14.2.length]⟩),(4,⟨3,true,x_14.2.flatMap eW⟩)]⟩) mixed [⟨2,.ptr 1 0,none,[]⟩,⟨3,.ptr 2 0,none,[]⟩,⟨5,.ptr 5 0,none,[]⟩,⟨6,iW x_14.1,none,[]⟩,⟨7,iW y_16,none,[]⟩,⟨16,rW β3 a1 eW,none,[]⟩,⟨17,iW (a1.length : Int),none,[]⟩,⟨18,iW x_14.1,none,[]⟩,⟨23,iW y_16,some 0,[]⟩,⟨24,bW (decide (y_16 < (0 : Int))),some 1,[]⟩,⟨25,bW (decide (y_16 < (0 : Int))),some 2,[]⟩,⟨26,.gd (!(decide (y_16 < (0 : Int)))) (iW y_16),some 3,[]⟩,⟨27,.gd (!(decide (y_16 < (0 : Int)))) (.own 4 1 0 x_14.2.length),some 4,[]⟩,⟨28,.gd (!(decide (y_16 < (0 : Int)))) (iW (x_14.2.length : Int)),some 5,[]⟩,⟨29,.gd (!(decide (y_16 < (0 : Int)))) (bW (decide ((x_14.2.length : Int) ≤ y_16))),some 6,[]⟩,⟨30,bW ((decide (y_16 < (0 : Int))) || (decide ((x_14.2.length : Int) ≤ y_16))),some 7,[]⟩,⟨31,bW ((decide (y_16 < (0 : Int))) || (decide ((x_14.2.length : Int) ≤ y_16))),some 8,[]⟩,⟨32,.gd (!((decide (y_16 < (0 : Int))) || (decide ((x_14.2.length : Int) ≤ y_16)))) (.own 4 1 0 x_14.2.length),some 9,[]⟩,⟨33,.gd (!((decide (y_16 < (0 : Int))) || (decide ((x_14.2.length : Int) ≤ y_16)))) (iW y_16),some 10,[]⟩,⟨34,.gd (!((decide (y_16 < (0 : Int))) || (decide ((x_14.2.length : Int) ≤ y_16)))) (.ptr 4 (0 + (y_16).toNat * 1)),some 11,[]⟩,⟨35,.gd (!((decide (y_16 < (0 : Int))) || (decide ((x_14.2.length : Int) ≤ y_16)))) (iW y_17),some 12,[]⟩,⟨36,.gd (!((decide (y_16 < (0 : Int))) || (decide ((x_14.2.length : Int) ≤ y_16)))) (rW β3 a1 eW),some 13,[]⟩,⟨37,.gd (!((decide (y_16 < (0 : Int))) || (decide ((x_14.2.length : Int) ≤ y_16)))) (iW (a1.length : Int)),some 14,[]⟩,⟨38,.gd (!((decide (y_16 < (0 : Int))) || (decide ((x_14.2.length : Int) ≤ y_16)))) (bW (decide (y_17 < (a1.length : Int)))),some 15,[]⟩,⟨39,bW (((decide (y_16 < (0 : Int))) || (decide ((x_14.2.length : Int) ≤ y_16))) || (decide (y_17 < (a1.length : Int)))),some 16,[]⟩] [⟨[4],0,0,some (23,iW y_16),[]⟩,⟨[8],0,0,some (24,bW (decide (y_16 < (0 : Int)))),[]⟩,⟨[9],0,0,some (25,bW (decide (y_16 < (0 : Int)))),[]⟩,⟨[10,4],0,0,some (26,.gd (!(decide (y_16 < (0 : Int)))) (iW y_16)),[]⟩,⟨[10,2],0,0,some (27,.gd (!(decide (y_16 < (0 : Int)))) (.own 4 1 0 x_14.2.length)),[]⟩,⟨[10,12],0,0,some (28,.gd (!(decide (y_16 < (0 : Int)))) (iW (x_14.2.length : Int))),[]⟩,⟨[10,11,13],0,0,some (29,.gd (!(decide (y_16 < (0 : Int)))) (bW (decide ((x_14.2.length : Int) ≤ y_16)))),[]⟩,⟨[10,14],0,0,some (30,bW ((decide (y_16 < (0 : Int))) || (decide ((x_14.2.length : Int) ≤ y_16)))),[]⟩,⟨[15],0,0,some (31,bW ((decide (y_16 < (0 : Int))) || (decide ((x_14.2.length : Int) ≤ y_16)))),[]⟩,⟨[16,2],0,0,some (32,.gd (!((decide (y_16 < (0 : Int))) || (decide ((x_14.2.length : Int) ≤ y_16)))) (.own 4 1 0 x_14.2.length)),[]⟩,⟨[16,4],0,0,some (33,.gd (!((decide (y_16 < (0 : Int))) || (decide ((x_14.2.length : Int) ≤ y_16)))) (iW y_16)),[]⟩,⟨[16,17,18],0,0,some (34,.gd (!((decide (y_16 < (0 : Int))) || (decide ((x_14.2.length : Int) ≤ y_16)))) (.ptr 4 (0 + (y_16).toNat * 1))),[]⟩,⟨[16,19],0,0,some (35,.gd (!((decide (y_16 < (0 : Int))) || (decide ((x_14.2.length : Int) ≤ y_16)))) (iW y_17)),[]⟩,⟨[16,1],0,0,some (36,.gd (!((decide (y_16 < (0 : Int))) || (decide ((x_14.2.length : Int) ≤ y_16)))) (rW β3 a1 eW)),[]⟩,⟨[16,21],0,0,some (37,.gd (!((decide (y_16 < (0 : Int))) || (decide ((x_14.2.length : Int) ≤ y_16)))) (iW (a1.length : Int))),[]⟩,⟨[16,20,22],0,0,some (38,.gd (!((decide (y_16 < (0 : Int))) || (decide ((x_14.2.length : Int) ≤ y_16)))) (bW (decide (y_17 < (a1.length : Int))))),[]⟩,⟨[16,23],0,0,some (39,bW (((decide (y_16 < (0 : Int))) || (decide ((x_14.2.length : Int) ≤ y_16))) || (decide (y_17 < (a1.length : Int))))),[]⟩] [] [[(1,⟨32,false,(pW β1 β2 a0)⟩),(2,⟨28,false,[rW β3 a1 eW]⟩),(5,⟨28,false,[.own 4 1 0 x_14.2.length]⟩),(4,⟨3,true,x_14.2.flatMap eW⟩)]] [[],[0],[0,1],[0,1,2],[0,1,2],[0,1,2,4],[0,1,2,3,4,5],[0,1,2,3,4,5,6],[0,1,2,3,4,5,6,7],[0,1,2,3,4,5,6,7,8],[0,1,2,3,4,5,6,7,8],[0,1,2,3,4,5,6,7,8,9,10],[0,1,2,3,4,5,6,7,8,9,10,11],[0,1,2,3,4,5,6,7,8],[0,1,2,3,4,5,6,7,8,13],[0,1,2,3,4,5,6,7,8,9,10,11,12,13,14],[0,1,2,3,4,5,6,7,8,9,10,11,12,13,14,15]] (by kernel_rfl) (by kernel_rfl) (BornL.ok (.o<| .o<| .o<| .o<| .o<| .o<| .o<| .o<| .b rfl rfl<| .b rfl rfl<| .b rfl rfl<| .b rfl rfl<| .b rfl rfl<| .b rfl rfl<| .b rfl rfl<| .b rfl rfl<| .b rfl rfl<| .b rfl rfl<| .b rfl rfl<| .b rfl rfl<| .b rfl rfl<| .b rfl rfl<| .b rfl rfl<| .b rfl rfl<| .b rfl rfl<| .n)) (BaseL.ok (.o rfl<| .o rfl<| .o rfl<| .o rfl<| .o rfl<| .o rfl<| .o rfl<| .o rfl<| .b<| .b<| .b<| .b<| .b<| .b<| .b<| .b<| .b<| .b<| .b<| .b<| .b<| .b<| .b<| .b<| .b<| .n)) rfl (by decide) (allLt rfl) (.pure rfl (fun H => .put (fun E hE => .move (l1 rfl) (.tmp (hE.at (k := 0) rfl))))<| .pure rfl (fun H => .put (fun E hE => .lss (l1 rfl) (.tmp (hE.at (k := 0) rfl)) (.const _ _ _)))<| .pure rfl (fun H => .put (fun E hE => .move (l1 rfl) (.tmp (hE.at (k := 0) rfl))))<| .pure rfl (fun H => .gput (b := (decide (y_16 < (0 : Int)))) (want := false) (j := 2) (dj := 25) rfl (l1 rfl) (l1 rfl) (fun E hE => hE.at (k := 0) rfl) (fun hg E hE => .move (l1 rfl) (.tmp (hE.at (k := 1) rfl))))<| .read rfl (.c (.gput (b := (decide (y_16 < (0 : Int)))) (want := false) (j := 2) (dj := 25) rfl (l1 rfl) (l1 rfl) (fun E hE => hE.at (k := 0) rfl) (fun hg E hE => .loadP (l1 rfl) (.tmp (hE.at (k := 1) rfl)) one28 rfl rfl rfl)) .n)<| .read rfl (.c (.gput (b := (decide (y_16 < (0 : Int)))) (want := false) (j := 2) (dj := 25) rfl (l1 rfl) (l1 rfl) (fun E hE => hE.at (k := 0) rfl) (fun hg E hE => .lenOwn (l1 rfl) (.gd hg (.tmp (hE.at (k := 1) rfl))) Try.underlying28)) .n)<| .pure rfl (fun H => .gput (b := (decide (y_16 < (0 : Int)))) (want := false) (j := 2) (dj := 25) rfl (l1 rfl) (l1 rfl) (fun E hE => hE.at (k := 0) rfl) (fun hg E hE => .geq (l1 rfl) (.gd hg (.tmp (hE.at (k := 1) rfl))) (.gd hg (.tmp (hE.at (k := 2) rfl)))))<| .pure rfl (fun H => .put (fun E hE => .pickOr (l1 rfl) (.tmp (hE.at (k := 0) rfl)) (.const _ _ _) (.tmp (hE.at (k := 1) rfl))))<| .pure rfl (fun H => .put (fun E hE => .move (l1 rfl) (.tmp (hE.at (k := 0) rfl))))<| .read rfl (.c (.gput (b := ((decide (y_16 < (0 : Int))) || (decide ((x_14.2.length : Int) ≤ y_16)))) (want := false) (j := 8) (dj := 31) rfl (l1 rfl) (l1 rfl) (fun E hE => hE.at (k := 0) rfl) (fun hg E hE => .loadP (l1 rfl) (.tmp (hE.at (k := 1) rfl)) one28 rfl rfl rfl)) .n)<| .pure rfl (fun H => .gput (b := ((decide (y_16 < (0 : Int))) || (decide ((x_14.2.length : Int) ≤ y_16)))) (want := false) (j := 8) (dj := 31) rfl (l1 rfl) (l1 rfl) (fun E hE => hE.at (k := 0) rfl) (fun hg E hE => .move (l1 rfl) (.tmp (hE.at (k := 1) rfl))))<| .read rfl (.c (.gput (b := ((decide (y_16 < (0 : Int))) || (decide ((x_14.2.length : Int) ≤ y_16)))) (want := false) (j := 8) (dj := 31) rfl (l1 rfl) (l1 rfl) (fun E hE => hE.at (k := 0) rfl) (fun hg E hE => .idxOwn (l1 rfl) (.gd hg (.tmp (hE.at (k := 1) rfl))) (.gd hg (.tmp (hE.at (k := 2) rfl))) Try.underlying28 sz3 rfl (gdB hy_17 hg))) .n)<| .read rfl (.c (.gput (b := ((decide (y_16 < (0 : Int))) || (decide ((x_14.2.length : Int) ≤ y_16)))) (want := false) (j := 8) (dj := 31) rfl (l1 rfl) (l1 rfl) (fun E hE => hE.at (k := 0) rfl) (fun hg E hE => .loadP (l1 rfl) (.gd hg (.tmp (hE.at (k := 1) rfl))) one3 rfl (cell_at1 (encI_len .i64) (gdB hy_17 hg)) rfl)) .n)<| .read rfl (.c (.gput (b := ((decide (y_16 < (0 : Int))) || (decide ((x_14.2.length : Int) ≤ y_16)))) (want := false) (j := 8) (dj := 31) rfl (l1 rfl) (l1 rfl) (fun E hE => hE.at (k := 0) rfl) (fun hg E hE => .loadP (l1 rfl) (.tmp (hE.at (k := 1) rfl)) one28 rfl rfl rfl)) .n)<| .pure rfl (fun H => .gput (b := ((decide (y_16 < (0 : Int))) || (decide ((x_14.2.length : Int) ≤ y_16)))) (want := false) (j := 8) (dj := 31) rfl (l1 rfl) (l1 rfl) (fun E hE => hE.at (k := 0) rfl) (fun hg E hE => .lenRd (l1 rfl) (.gd hg (.tmp (hE.at (k := 1) rfl))) Try.underlying28))<| .pure rfl (fun H => .gput (b := ((decide (y_16 < (0 : Int))) || (decide ((x_14.2.length : Int) ≤ y_16)))) (want := false) (j := 8) (dj := 31) rfl (l1 rfl) (l1 rfl) (fun E hE => hE.at (k := 0) rfl) (fun hg E hE => .lss (l1 rfl) (.gd hg (.tmp (hE.at (k := 1) rfl))) (.gd hg (.tmp (hE.at (k := 2) rfl)))))<| .pure rfl (fun H => .put (fun E hE => .pickOr (l1 rfl) (.tmp (hE.at (k := 0) rfl)) (.const _ _ _) (.tmp (hE.at (k := 1) rfl))))<| .nil _) (fun E hE => .c (DInv.at hE (k := 0) rfl rfl rfl)<| .c (DInv.at hE (k := 1) rfl rfl rfl)<| .c (DInv.at hE (k := 2) rfl rfl rfl)<| .c (DInv.at hE (k := 3) rfl rfl rfl)<| .c (DInv.at hE (k := 4) rfl rfl rfl)<| .c (DInv.at hE (k := 5) rfl rfl rfl)<| .c (DInv.at hE (k := 6) rfl rfl rfl)<| .c (DInv.at hE (k := 7) rfl rfl rfl)<| .c (DInv.at hE (k := 24) rfl rfl rfl)<| .n _) rfl ?_
   refine AWP.vc (s' := ⟨[(2,.ptr 1 0),(3,.ptr 2 0),(5,.ptr 5 0),(16,rW β3 a1 eW),(17,iW (a1.length : Int)),(18,iW x_14.1),(6,iW x_14.1),(7,iW y_16),(39,bW (((decide (y_16 < (0 : Int))) || (decide ((x_14.2.length : Int) ≤ y_16))) || (decide (y_17 < (a1.length : Int)))))],[(1,⟨32,false,(pW β1 β2 a0)⟩),(2,⟨28,false,[rW β3 a1 eW]⟩),(5,⟨28,false,[.own 4 1 0 x_14.2.length]⟩),(4,⟨3,true,x_14.2.flatMap eW⟩)]⟩) (VC.sub (.of rfl) (.of rfl)) ?_
   refine AWP.cond (.t rfl) (fun hc => ?_) (fun hc => ?_)
   ·have h := iteT hc h
    refine AWP.seq ?_
    refine AWP.rg (.cons (.assign (l1 rfl) (.const _ _ _))<| ARun.nil _ _ _) ?_
    refine AWP.ret ?_
    obtain rfl := Option.some.inj h
    refine retJ (Res.vc (s' := ⟨[(4,bW false)],[]⟩) (VC.sub (.of rfl) (.n _)) ?_)
    refine Res.drop (H := []) rfl ?_
    exact Res.of rfl (.cons (.tmp rfl) (.nil)) rfl rfl
   ·have h := iteF hc h
    refine AWP.skip ?_
    obtain ⟨y_18,hy_18,h⟩ := bindS h
    obtain ⟨l4_19,hl4_19,h⟩ := bindS h
    refine AWP.rg (.cons (.loadP (l1 rfl) (.t rfl) one28 rfl rfl rfl)<| .cons (.move (l1 rfl) (.t rfl))<| .cons (.move (l1 rfl) (.t rfl))<| .cons (.idxOwn (l1 rfl) (.t rfl) (.t rfl) Try.underlying28 sz3 rfl hy_18)<| .cons (.storeP (.t rfl) (.t rfl) sz3 rfl (lt_at1 (encI_len .i64) hy_18) rfl (fun _ => rfl) (set_at1 (encI_len .i64) hl4_19 rfl))<| .vc (VC.cellEq (t := 5) (i := 0) (v' := .own 4 1 0 l4_19.length) rfl rfl rfl (congrArg (fun n_ => AV.own 4 1 0 n_) (Eq.symm (setLen hl4_19))))<| ARun.nil _ _ _) ?_
    refine AWP.vc (s' := ⟨[(2,.ptr 1 0),(3,.ptr 2 0),(5,.ptr 5 0),(16,rW β3 a1 eW),(17,iW (a1.length : Int)),(18,iW x_14.1)],[(1,⟨32,false,(pW β1 β2 a0)⟩),(2,⟨28,false,[rW β3 a1 eW]⟩),(5,⟨28,false,[.own 4 1 0 l4_19.length]⟩),(4,⟨3,true,l4_19.flatMap eW⟩)]⟩) (VC.sub (.of rfl) (.of rfl)) ?_
    obtain ⟨t18_20,ht18_20,h⟩ := letS h
    refine AWP.rg (.cons (.add (l1 rfl) (.t rfl) (.const _ _ _))<| .cons (.move (l1 rfl) (.t rfl))<| ARun.nil _ _ _) ?_
    exact endJ (t18_20,l4_19) h (by subst ht18_20; exact VC.sub (.of rfl) (.of rfl))
  ·have h := iteF hc h
   refine AWP.exit ?_
   exact endJ x_14.2 h (VC.sub (.of rfl) (.of rfl))
theorem c61 {β1 : Bool} {β2 : Bool} {β3 : Bool} (n : Nat) (a0 : R57) {r : Bool} (h : m61 n a0 = some r) : Spec Try.prog 61 [] [.agg (gW β1 β2 β3 a0.Gq a0.Path a0.Ln)] [] (bW r) [] := by
 refine Spec.of (fn := Try.f61) Try.func61 Try.ntmps61 rfl rfl (le1 rfl) (fun w0 Zs Zb T0 ι0 => ?_)
 unfold m61 at h
 refine AWP.seq ?_
 refine AWP.rg (.cons (.box (t := 1) (n := 4) (l1 rfl) (nm rfl) (.t rfl) (by first | exact ⟨rfl,rfl⟩ | rfl) rfl)<| .cons (.assign (l1 rfl) (.const _ _ _))<| ARun.nil _ _ _) ?_
 refine AWP.vc (s' := ⟨[(1,.ptr 1 0)],[(1,⟨58,false,(gW β1 β2 β3 a0.Gq a0.Path a0.Ln)⟩)]⟩) (VC.sub (.of rfl) (.of rfl)) ?_
 refine AWP.seq ?_
 obtain ⟨y_1,hy_1,h⟩ := bindS h
 obtain ⟨y_2,hy_2,h⟩ := bindS h
 refine AWP.rg (.cons (.fieldP (l1 rfl) (.t rfl) fld58_0)<| .cons (.loadPA (l1 rfl) (.t rfl) agg32 rfl rfl rfl rfl)<| .cons (.call0 (bw := false) (l1 rfl) (c22 (β1 := β1) (β2 := β2) n (R24.mk a0.Gq.Pq a0.Gq.Bq) hy_1) (.cons (.t rfl) (.ren rfl) (.nil)) rfl)<| .cons (.move (l1 rfl) (.t rfl))<| .guard (j := 3) (dj := 6) rfl (l1 rfl) rfl (l1 rfl) (fun hg => .fieldP (l1 rfl) (.t rfl) fld58_0)<| .guard (j := 3) (dj := 6) rfl (l1 rfl) rfl (l1 rfl) (fun hg => .loadPA (l1 rfl) (.gd hg (.t rfl)) agg32 rfl rfl rfl rfl)<| .guard (j := 3) (dj := 6) rfl (l1 rfl) rfl (l1 rfl) (fun hg => .fieldP (l1 rfl) (.t rfl) fld58_1)<| .guard (j := 3) (dj := 6) rfl (l1 rfl) rfl (l1 rfl) (fun hg => .loadP (l1 rfl) (.gd hg (.t rfl)) one28 rfl rfl rfl)<| .guard (j := 3) (dj := 6) rfl (l1 rfl) rfl (l1 rfl) (fun hg => .call0 (bw := false) (l1 rfl) (c88 (β1 := β1) (β2 := β2) (β3 := β3) n (R24.mk a0.Gq.Pq a0.Gq.Bq) a0.Path (gdB hy_2 hg)) (.cons (.gd hg (.t rfl)) (.ren rfl) (.cons (.gd hg (.t rfl)) (.ren rfl) (.nil))) rfl)<| .cons (.pickAnd (l1 rfl) (.t rfl) (.t rfl) (.const _ _ _))<| .cons (.move (l1 rfl) (.t rfl))<| .guard (j := 10) (dj := 13) rfl (l1 rfl) rfl (l1 rfl) (fun hg => .fieldP (l1 rfl) (.t rfl) fld58_2)<| .guard (j := 10) (dj := 13) rfl (l1 rfl) rfl (l1 rfl) (fun hg => .loadP (l1 rfl) (.gd hg (.t rfl)) one3 rfl rfl rfl)<| .guard (j := 10) (dj := 13) rfl (l1 rfl) rfl (l1 rfl) (fun hg => .geq (l1 rfl) (.gd hg (.t rfl)) (.const _ _ _))<| .cons (.pickAnd (l1 rfl) (.t rfl) (.t rfl) (.const _ _ _))<| .cons (.move (l1 rfl) (.t rfl))<| .guard (j := 15) (dj := 18) rfl (l1 rfl) rfl (l1 rfl) (fun hg => .fieldP (l1 rfl) (.t rfl) fld58_2)<| .guard (j := 15) (dj := 18) rfl (l1 rfl) rfl (l1 rfl) (fun hg => .loadP (l1 rfl) (.gd hg (.t rfl)) one3 rfl rfl rfl)<| .guard (j := 15) (dj := 18) rfl (l1 rfl) rfl (l1 rfl) (fun hg => .leq (l1 rfl) (.gd hg (.t rfl)) (.const _ _ _))<| .cons (.pickAnd (l1 rfl) (.t rfl) (.t rfl) (.const _ _ _))<| .cons (.assign (l1 rfl) (.t rfl))<| ARun.nil _ _ _) ?_
 refine AWP.ret ?_
 obtain rfl := Option.some.inj h
 refine retJ (Res.vc (s' := ⟨[(2,bW (((y_1 && y_2) && (decide ((-1073741824 : Int) ≤ a0.Ln))) && (decide (a0.Ln ≤ (1073741824 : Int)))))],[]⟩) (VC.sub (.of rfl) (.n _)) ?_)
 refine Res.drop (H := []) rfl ?_
 exact Res.of rfl (.cons (.tmp rfl) (.nil)) rfl rfl
theorem c63o {β1 : Bool} (n : Nat) (a0 : (List Int)) {r : (List Int)} (h : m63o n a0 = some r) : Spec Try.prog 63 [] [rW β1 a0 eW] [] (.own 1 1 0 r.length) [(1,⟨3,true,r.flatMap eW⟩)] := by
 refine Spec.of (fn := Try.f63) Try.func63 Try.ntmps63 rfl rfl (le1 rfl) (fun w0 Zs Zb T0 ι0 => ?_)
 unfold m63o at h
 refine AWP.seq ?_
 refine AWP.rg (.cons (.assign (l1 rfl) (.const _ _ _))<| ARun.nil _ _ _) ?_
 refine AWP.vc (s' := ⟨[(0,rW β1 a0 eW)],[]⟩) (VC.sub (.of rfl) (.n _)) ?_
 refine AWP.seq ?_
 refine AWP.seq ?_
 refine AWP.regionE (S := fun q_1 => ⟨[(0,rW β1 a0 eW),(4,bW (decide (a0.length = 0 ∧ q_1 = 0)))],[]⟩) (.cons (.move (l1 rfl) (.t rfl))<| .consE (AStepE.eqNil0 (l1 rfl) (.t rfl) Try.underlying28)<| fun q_1 => ARunE.nilV q_1 (VC.sub (.of rfl) (.n _))) (fun q_1 => ?_)
 refine AWP.cond (.t rfl) (fun hc => ?_) (fun hc => ?_)
 ·have h := cloneNil hc h
  refine AWP.seq ?_
  refine AWP.rg (.cons (.assign (l1 rfl) (.const _ _ _))<| ARun.nil _ _ _) ?_
  refine AWP.ret ?_
  obtain rfl := Option.some.inj h
  refine retJ (Res.vc (s' := ⟨[(2,.own 1 1 0 ([] : List Int).length)],[(1,⟨3,true,([] : List Int).flatMap eW⟩)]⟩) (VC.trans (VC.nilOwn (d := 2) (t := 1) (sz := 1) (E := 3) rfl (nm rfl)) (VC.sub (.of rfl) (.of rfl))) ?_)
  refine Res.sub (H := [(1,⟨3,true,([] : List Int).flatMap eW⟩)]) (.of rfl) ?_
  exact Res.of rfl (.cons (.tmp rfl) (.nil)) rfl rfl
 ·refine AWP.skip ?_
  refine AWP.seq ?_
  obtain ⟨l1_2,hl1_2,h⟩ := bindS h
  refine AWP.rg (.cons (.buildSlice (t := 1) (out := ([] : List Int).flatMap eW) (l1 rfl) (nm rfl) (.nil) Try.underlying28 zero3 el3 (by decide) (by decide) rfl (still_all (encI_still .i64) _))<| .cons (.move (l1 rfl) (.t rfl))<| .cons (.app (enc := eW) (l1 rfl) (nm rfl) (.t rfl) (Src.rd (.t rfl) (flatMap_length (encI_len .i64) _) (one_all (encI_one .i64) _) (.inr (scal_all (encI_scal .i64) _))) Try.underlying28 ⟨_,Try.underlying28,by intro k hk; cases hk⟩ el3 rfl (encI_len .i64) rfl rfl (by decide) hl1_2)<| .cons (.assign (l1 rfl) (.t rfl))<| ARun.nil _ _ _) ?_
  refine AWP.ret ?_
  obtain rfl := Option.some.inj h
  refine retJ (Res.vc (s' := ⟨[(2,.own 1 1 0 l1_2.length)],[(1,⟨3,true,l1_2.flatMap eW⟩)]⟩) (VC.sub (.of rfl) (.of rfl)) ?_)
  refine Res.sub (H := [(1,⟨3,true,l1_2.flatMap eW⟩)]) (.of rfl) ?_
  exact Res.of rfl (.cons (.tmp rfl) (.nil)) rfl rfl
theorem c24 {β3 : Bool} (n : Nat) (a0 : R57) (a1 : Int) {r : ((List R57) × Bool)} (h : m24 n a0 a1 = some r) : Spec Try.prog 24 [] [.agg (gW false false β3 a0.Gq a0.Path a0.Ln),iW a1] [] (.tup [rW false r.1 encR57,bW r.2]) [] := by
 refine Spec.of (fn := Try.f24) Try.func24 Try.ntmps24 rfl rfl (le1 rfl) (fun w0 Zs Zb T0 ι0 => ?_)
 unfold m24 at h
 refine AWP.seq ?_
 refine AWP.rg (.cons (.box (t := 1) (n := 4) (l1 rfl) (nm rfl) (.t rfl) (by first | exact ⟨rfl,rfl⟩ | rfl) rfl)<| .cons (.assign (l1 rfl) (.const _ _ _))<| .cons (.assign (l1 rfl) (.const _ _ _))<| ARun.nil _ _ _) ?_
 refine AWP.vc (s' := ⟨[(1,iW a1),(2,.ptr 1 0)],[(1,⟨58,false,(gW false false β3 a0.Gq a0.Path a0.Ln)⟩)]⟩) (VC.sub (.of rfl) (.of rfl)) ?_
 refine AWP.seq ?_
 refine AWP.seq ?_
 obtain ⟨y_1,hy_1,h⟩ := bindS h
 refine AWP.rg (.cons (.move (l1 rfl) (.t rfl))<| .cons (.neq (l1 rfl) (.t rfl) (.const _ _ _))<| .cons (.move (l1 rfl) (.t rfl))<| .guard (j := 2) (dj := 11) rfl (l1 rfl) rfl (l1 rfl) (fun hg => .loadPA (l1 rfl) (.t rfl) agg58 rfl rfl rfl rfl)<| .guard (j := 2) (dj := 11) rfl (l1 rfl) rfl (l1 rfl) (fun hg => .call0 (bw := false) (l1 rfl) (c61 (β1 := false) (β2 := false) (β3 := β3) n (R57.mk (R24.mk a0.Gq.Pq a0.Gq.Bq) a0.Path a0.Ln) (gdB hy_1 hg)) (.cons (.gd hg (.t rfl)) (.ren rfl) (.nil)) rfl)<| .guard (j := 2) (dj := 11) rfl (l1 rfl) rfl (l1 rfl) (fun hg => .not (l1 rfl) (.gd hg (.t rfl)))<| .cons (.pickOr (l1 rfl) (.t rfl) (.const _ _ _) (.t rfl))<| .cons (.move (l1 rfl) (.t rfl))<| .guard (j := 7) (dj := 16) rfl (l1 rfl) rfl (l1 rfl) (fun hg => .fieldP (l1 rfl) (.t rfl) fld58_1)<| .guard (j := 7) (dj := 16) rfl (l1 rfl) rfl (l1 rfl) (fun hg => .loadP (l1 rfl) (.gd hg (.t rfl)) one28 rfl rfl rfl)<| .guard (j := 7) (dj := 16) rfl (l1 rfl) rfl (l1 rfl) (fun hg => .lenRd (l1 rfl) (.gd hg (.t rfl)) Try.underlying28)<| .guard (j := 7) (dj := 16) rfl (l1 rfl) rfl (l1 rfl) (fun hg => .fieldP (l1 rfl) (.t rfl) fld58_0)<| .guard (j := 7) (dj := 16) rfl (l1 rfl) rfl (l1 rfl) (fun hg => .fieldP (l1 rfl) (.gd hg (.t rfl)) fld32_0)<| .guard (j := 7) (dj := 16) rfl (l1 rfl) rfl (l1 rfl) (fun hg => .loadP (l1 rfl) (.gd hg (.t rfl)) one22 rfl rfl rfl)<| .guard (j := 7) (dj := 16) rfl (l1 rfl) rfl (l1 rfl) (fun hg => .lenRd (l1 rfl) (.gd hg (.t rfl)) Try.underlying22)<| .guard (j := 7) (dj := 16) rfl (l1 rfl) rfl (l1 rfl) (fun hg => .eql (l1 rfl) (.gd hg (.t rfl)) (.gd hg (.t rfl)))<| .cons (.pickOr (l1 rfl) (.t rfl) (.const _ _ _) (.t rfl))<| ARun.nil _ _ _) ?_
 refine AWP.vc (s' := ⟨[(2,.ptr 1 0),(25,bW (((!decide (a1 = (0 : Int))) || (!y_1)) || (decide ((a0.Path.length : Int) = (a0.Gq.Pq.length : Int)))))],[(1,⟨58,false,(gW false false β3 a0.Gq a0.Path a0.Ln)⟩)]⟩) (VC.sub (.of rfl) (.of rfl)) ?_
 refine AWP.cond (.t rfl) (fun hc => ?_) (fun hc => ?_)
 ·have h := iteT hc h
  refine AWP.seq ?_
  refine AWP.rg (.cons (.assign (l1 rfl) (.const _ _ _))<| .cons (.assign (l1 rfl) (.const _ _ _))<| ARun.nil _ _ _) ?_
  refine AWP.ret ?_
  obtain rfl := Option.some.inj h
  refine retJ (Res.vc (s' := ⟨[(4,rW false ([] : List R57) encR57),(5,bW false)],[]⟩) (VC.trans (VC.nilRd (d := 4) false rfl) (VC.sub (.of rfl) (.n _))) ?_)
  refine Res.drop (H := []) rfl ?_
  exact Res.of rfl (.cons (.tmp rfl) (.cons (.tmp rfl) (.nil))) rfl rfl
 ·have h := iteF hc h
  refine AWP.skip ?_
  refine AWP.seq ?_
  refine AWP.rg (.cons (.assign (l1 rfl) (.const _ _ _))<| ARun.nil _ _ _) ?_
  refine AWP.vc (s' := ⟨[(2,.ptr 1 0),(6,.sc (.slice none 0 0))],[(1,⟨58,false,(gW false false β3 a0.Gq a0.Path a0.Ln)⟩)]⟩) (VC.sub (.of rfl) (.of rfl)) ?_
  refine AWP.seq ?_
  refine AWP.seq ?_
  obtain ⟨y_2,hy_2,h⟩ := bindS h
  refine AWP.rg (.cons (.fieldP (l1 rfl) (.t rfl) fld58_0)<| .cons (.loadPA (l1 rfl) (.t rfl) agg32 rfl rfl rfl rfl)<| .cons (.fieldP (l1 rfl) (.t rfl) fld58_1)<| .cons (.loadP (l1 rfl) (.t rfl) one28 rfl rfl rfl)<| .cons (.call0 (bw := false) (l1 rfl) (c62 (β1 := false) (β2 := false) (β3 := β3) n (R24.mk a0.Gq.Pq a0.Gq.Bq) a0.Path hy_2) (.cons (.t rfl) (.ren rfl) (.cons (.t rfl) (.ren rfl) (.nil))) rfl)<| .cons (.lenRd (l1 rfl) (.t rfl) Try.underlying28)<| .cons (.move (l1 rfl) (.const _ _ _))<| ARun.nil _ _ _) ?_
  refine AWP.vc (s' := ⟨[(2,.ptr 1 0),(6,.sc (.slice none 0 0)),(30,rW false y_2 eW),(31,iW (y_2.length : Int)),(32,iW (0 : Int))],[(1,⟨58,false,(gW false false β3 a0.Gq a0.Path a0.Ln)⟩)]⟩) (VC.sub (.of rfl) (.of rfl)) ?_
  refine AWP.joinB' (S := fun p_22 : (List R57) => ⟨[(6,.own 2 4 0 p_22.length)],[(2,⟨58,true,p_22.flatMap encR57⟩)]⟩) h (fun p_22 h => ?_) (fun k_23 h => ?_)
  ·refine AWP.seq ?_
   refine AWP.rg (.cons (.move (l1 rfl) (.t rfl))<| .cons (.assign (l1 rfl) (.t rfl))<| .cons (.assign (l1 rfl) (.const _ _ _))<| ARun.nil _ _ _) ?_
   refine AWP.ret ?_
   obtain rfl := Option.some.inj h
   refine retJ (Res.vc (s' := ⟨[(4,rW false p_22 encR57),(5,bW true)],[]⟩) (VC.trans (VC.frz (d := 4) (t := 2) rfl rfl encR57_len) (VC.sub (.of rfl) (.n _))) ?_)
   refine Res.drop (H := []) rfl ?_
   exact Res.of rfl (.cons (.tmp rfl) (.cons (.tmp rfl) (.nil))) rfl rfl
  ·refine AWP.vc (VC.nilOwn (d := 6) (t := 2) (sz := 4) (E := 58) rfl (nm rfl)) ?_
   refine AWP.vc (s' := ⟨[(2,.ptr 1 0),(6,.own 2 4 0 ([] : List R57).length),(30,rW false y_2 eW),(31,iW (y_2.length : Int)),(32,iW (0 : Int))],[(1,⟨58,false,(gW false false β3 a0.Gq a0.Path a0.Ln)⟩),(2,⟨58,true,([] : List R57).flatMap encR57⟩)]⟩) (VC.sub (.of rfl) (.of rfl)) ?_
   refine AWP.loopM (S := fun x_15 : Int × (List R57) => ⟨[(2,.ptr 1 0),(6,.own 2 4 0 x_15.2.length),(30,rW false y_2 eW),(31,iW (y_2.length : Int)),(32,iW x_15.1)],[(1,⟨58,false,(gW false false β3 a0.Gq a0.Path a0.Ln)⟩),(2,⟨58,true,x_15.2.flatMap encR57⟩)]⟩) (x := ((0 : Int),([] : List R57))) (fun nx_16 x_15 h => ?_) h
   unfold m24_L1 at h
   refine AWP.seq ?_
   refine AWP.rg (.cons (.lss (l1 rfl) (.t rfl) (.t rfl))<| ARun.nil _ _ _) ?_
   refine AWP.vc (s' := ⟨[(2,.ptr 1 0),(6,.own 2 4 0 x_15.2.length),(30,rW false y_2 eW),(31,iW (y_2.length : Int)),(32,iW x_15.1),(33,bW (decide (x_15.1 < (y_2.length : Int))))],[(1,⟨58,false,(gW false false β3 a0.Gq a0.Path a0.Ln)⟩),(2,⟨58,true,x_15.2.flatMap encR57⟩)]⟩) (VC.sub (.of rfl) (.of rfl)) ?_
   refine AWP.seq ?_
   refine AWP.cond (.t rfl) (fun hc => ?_) (fun hc => ?_)
   ·have h := iteT hc h
    refine AWP.skip ?_
    refine AWP.seq ?_
    refine AWP.block ?_
    refine AWP.seq ?_
    obtain ⟨y_17,hy_17,h⟩ := bindS h
    refine AWP.rg (.cons (.indexRd (enc := eW) (l1 rfl) (.t rfl) (.t rfl) Try.underlying28 sz3 (encI_len .i64) rfl hy_17)<| .cons (.loadR (v := iW y_17) (l1 rfl) (.t rfl) one3 rfl)<| .cons (.assign (l1 rfl) (.t rfl))<| ARun.nil _ _ _) ?_
    refine AWP.vc (s' := ⟨[(2,.ptr 1 0),(6,.own 2 4 0 x_15.2.length),(30,rW false y_2 eW),(31,iW (y_2.length : Int)),(32,iW x_15.1),(8,iW y_17)],[(1,⟨58,false,(gW false false β3 a0.Gq a0.Path a0.Ln)⟩),(2,⟨58,true,x_15.2.flatMap encR57⟩)]⟩) (VC.sub (.of rfl) (.of rfl)) ?_
    obtain ⟨y_18,hy_18,h⟩ := bindS h
    obtain ⟨l3_19,hl3_19,h⟩ := bindS h
    obtain ⟨l2_20,hl2_20,h⟩ := bindS h
    refine AWP.draw (s' := ⟨[(2,.ptr 1 0),(6,.own 2 4 0 l2_20.length),(30,rW false y_2 eW),(31,iW (y_2.length : Int)),(32,iW x_15.1)],[(2,⟨58,true,l2_20.flatMap encR57⟩),(1,⟨58,false,(gW false false β3 a0.Gq a0.Path a0.Ln)⟩)]⟩) mixed [⟨2,.ptr 1 0,none,[]⟩,⟨6,.own 2 4 0 x_15.2.length,none,[13,14]⟩,⟨8,iW y_17,none,[]⟩,⟨30,rW false y_2 eW,none,[]⟩,⟨31,iW (y_2.length : Int),none,[]⟩,⟨32,iW x_15.1,none,[]⟩,⟨36,.own 2 4 0 x_15.2.length,some 0,[13]⟩,⟨37,.ptr 1 (0 + 0),some 1,[]⟩,⟨38,.agg (pW false false a0.Gq),some 2,[]⟩,⟨39,.ptr 1 (0 + 2),some 3,[]⟩,⟨40,rW β3 a0.Path eW,some 4,[]⟩,⟨41,.own 3 1 0 y_18.length,some 5,[8]⟩,⟨42,iW y_17,some 6,[]⟩,⟨43,rW false ([y_17] : List Int) eW,some 7,[]⟩,⟨44,rW false l3_19 eW,some 8,[]⟩,⟨45,.ptr 1 (0 + 3),some 9,[]⟩,⟨46,iW a0.Ln,some 10,[]⟩,⟨47,.agg [rW false a0.Gq.Pq e45,rW false a0.Gq.Bq e93,rW false l3_19 eW,iW a0.Ln],some 11,[]⟩,⟨48,rW false ([(R57.mk (R24.mk a0.Gq.Pq a0.Gq.Bq) l3_19 a0.Ln)] : List R57) encR57,some 12,[]⟩,⟨49,.own 2 4 0 l2_20.length,some 13,[]⟩,⟨6,.own 2 4 0 l2_20.length,some 14,[]⟩] [⟨[1],0,2,some (36,.own 2 4 0 x_15.2.length),[]⟩,⟨[0],0,2,some (37,.ptr 1 (0 + 0)),[]⟩,⟨[7],0,2,some (38,.agg (pW false false a0.Gq)),[]⟩,⟨[0],0,0,some (39,.ptr 1 (0 + 2)),[]⟩,⟨[9],0,0,some (40,rW β3 a0.Path eW),[]⟩,⟨[10],0,0,some (41,.own 3 1 0 y_18.length),[3]⟩,⟨[2],0,3,some (42,iW y_17),[]⟩,⟨[12],0,3,some (43,rW false ([y_17] : List Int) eW),[]⟩,⟨[11,13],1,1,some (44,rW false l3_19 eW),[3]⟩,⟨[0],0,2,some (45,.ptr 1 (0 + 3)),[]⟩,⟨[15],0,2,some (46,iW a0.Ln),[]⟩,⟨[8,14,16],0,3,some (47,.agg [rW false a0.Gq.Pq e45,rW false a0.Gq.Bq e93,rW false l3_19 eW,iW a0.Ln]),[]⟩,⟨[17],0,3,some (48,rW false ([(R57.mk (R24.mk a0.Gq.Pq a0.Gq.Bq) l3_19 a0.Ln)] : List R57) encR57),[]⟩,⟨[6,18],2,2,some (49,.own 2 4 0 l2_20.length),[2]⟩,⟨[19],3,3,some (6,.own 2 4 0 l2_20.length),[]⟩] [5,8,13] [[(1,⟨58,false,(gW false false β3 a0.Gq a0.Path a0.Ln)⟩),(2,⟨58,true,x_15.2.flatMap encR57⟩)],[(3,⟨3,true,y_18.flatMap eW⟩),(1,⟨58,false,(gW false false β3 a0.Gq a0.Path a0.Ln)⟩),(2,⟨58,true,x_15.2.flatMap encR57⟩)],[(1,⟨58,false,(gW false false β3 a0.Gq a0.Path a0.Ln)⟩),(2,⟨58,true,x_15.2.flatMap encR57⟩)],[(2,⟨58,true,l2_20.flatMap encR57⟩),(1,⟨58,false,(gW false false β3 a0.Gq a0.Path a0.Ln)⟩)]] [[],[],[1],[],[3],[3,4],[],[6],[3,4,5,6,7],[],[9],[1,2,3,4,5,6,7,8,9,10],[1,2,3,4,5,6,7,8,9,10,11],[0,1,2,3,4,5,6,7,8,9,10,11,12],[0,1,2,3,4,5,6,7,8,9,10,11,12,13]] (by kernel_rfl) (by kernel_rfl) (BornL.ok (.o<| .o<| .o<| .o<| .o<| .o<| .b rfl rfl<| .b rfl rfl<| .b rfl rfl<| .b rfl rfl<| .b rfl rfl<| .b rfl rfl<| .b rfl rfl<| .b rfl rfl<| .b rfl rfl<| .b rfl rfl<| .b rfl rfl<| .b rfl rfl<| .b rfl rfl<| .b rfl rfl<| .b rfl rfl<| .n)) (BaseL.ok (.o rfl<| .o rfl<| .o rfl<| .o rfl<| .o rfl<| .o rfl<| .b<| .b<| .b<| .b<| .b<| .b<| .b<| .b<| .b<| .b<| .b<| .b<| .b<| .b<| .b<| .n)) rfl (by decide) (allLt rfl) (.read rfl (.c (.put (fun E hE => .move (l1 rfl) (.tmp (hE.at (k := 0) rfl)))) (.c (.put (fun E hE => .move (l1 rfl) (.tmp (hE.at (k := 0) rfl)))) (.c (.put (fun E hE => .move (l1 rfl) (.tmp (hE.at (k := 0) rfl)))) (.n))))<| .read rfl (.c (.put (fun E hE => .fieldP (l1 rfl) (.tmp (hE.at (k := 0) rfl)) fld58_0)) (.c (.put (fun E hE => .fieldP (l1 rfl) (.tmp (hE.at (k := 0) rfl)) fld58_0)) (.c (.put (fun E hE => .fieldP (l1 rfl) (.tmp (hE.at (k := 0) rfl)) fld58_0)) (.n))))<| .read rfl (.c (.put (fun E hE => .loadPA (l1 rfl) (.tmp (hE.at (k := 0) rfl)) agg32 rfl rfl rfl rfl)) (.c (.put (fun E hE => .loadPA (l1 rfl) (.tmp (hE.at (k := 0) rfl)) agg32 rfl rfl rfl rfl)) (.c (.put (fun E hE => .loadPA (l1 rfl) (.tmp (hE.at (k := 0) rfl)) agg32 rfl rfl rfl rfl)) (.n))))<| .read rfl (.c (.put (fun E hE => .fieldP (l1 rfl) (.tmp (hE.at (k := 0) rfl)) fld58_1)) (.n))<| .read rfl (.c (.put (fun E hE => .loadP (l1 rfl) (.tmp (hE.at (k := 0) rfl)) one28 rfl rfl rfl)) (.n))<| .turn rfl rfl rfl rfl rfl (.called (fun E hE => AStep.call (σ := fun _ => 3) (bw := false) (l1 rfl) (c63o (β1 := β3) n a0.Path hy_18) (.cons (.tmp (hE.at (k := 0) rfl)) (.ren rfl) (.nil)) (CallOk.mk' (.n) rfl)) rfl rfl rfl)<| .pure rfl (fun H => .put (fun E hE => .move (l1 rfl) (.tmp (hE.at (k := 0) rfl))))<| .pure rfl (fun H => .put (fun E hE => .frzAny (fun t ht => AStep.buildSlice (t := t) (out := ([y_17] : List Int).flatMap eW) (l1 rfl) ht (.cons (.tmp (hE.at (k := 0) rfl)) (by first | exact ⟨rfl,rfl⟩ | rfl) (.nil)) Try.underlying28 zero3 el3 (by decide) (by decide) rfl (still_all (encI_still .i64) _)) rfl (encI_len .i64)))<| .turn rfl rfl rfl rfl rfl (.appFrz (fun E hE => .app (enc := eW) (l1 rfl) (nm rfl) (.tmp (hE.at (k := 0) rfl)) (Src.rd (.tmp (hE.at (k := 1) rfl)) (flatMap_length (encI_len .i64) _) (one_all (encI_one .i64) _) (.inl rfl)) Try.underlying28 ⟨_,Try.underlying28,by intro k hk; cases hk⟩ el3 rfl (encI_len .i64) rfl rfl (by decide) hl3_19) rfl (encI_len .i64))<| .read rfl (.c (.put (fun E hE => .fieldP (l1 rfl) (.tmp (hE.at (k := 0) rfl)) fld58_2)) (.c (.put (fun E hE => .fieldP (l1 rfl) (.tmp (hE.at (k := 0) rfl)) fld58_2)) (.c (.put (fun E hE => .fieldP (l1 rfl) (.tmp (hE.at (k := 0) rfl)) fld58_2)) (.n))))<| .read rfl (.c (.put (fun E hE => .loadP (l1 rfl) (.tmp (hE.at (k := 0) rfl)) one3 rfl rfl rfl)) (.c (.put (fun E hE => .loadP (l1 rfl) (.tmp (hE.at (k := 0) rfl)) one3 rfl rfl rfl)) (.c (.put (fun E hE => .loadP (l1 rfl) (.tmp (hE.at (k := 0) rfl)) one3 rfl rfl rfl)) (.n))))<| .pure rfl (fun H => .put (fun E hE => .buildO (offs := [(0,2),(2,1),(3,1)]) (l1 rfl) (.cons (.tmp (hE.at (k := 0) rfl)) (by first | exact ⟨rfl,rfl⟩ | rfl) (.cons (.tmp (hE.at (k := 1) rfl)) (by first | exact ⟨rfl,rfl⟩ | rfl) (.cons (.tmp (hE.at (k := 2) rfl)) (by first | exact ⟨rfl,rfl⟩ | rfl) (.nil)))) zero58 offs58 rfl))<| .pure rfl (fun H => .put (fun E hE => .frzAny (fun t ht => AStep.buildSlice (t := t) (out := ([(R57.mk (R24.mk a0.Gq.Pq a0.Gq.Bq) l3_19 a0.Ln)] : List R57).flatMap encR57) (l1 rfl) ht (.cons (.tmp (hE.at (k := 0) rfl)) (by first | exact ⟨rfl,rfl⟩ | rfl) (.nil)) Try.underlying54 zero58 el58 (by decide) (by decide) rfl (still_all encR57_still _)) rfl encR57_len))<| .turn rfl rfl rfl rfl rfl (.new (fun E hE => .app (enc := encR57) (l1 rfl) (nm rfl) (.tmp (hE.at (k := 0) rfl)) (Src.rd (.tmp (hE.at (k := 1) rfl)) (flatMap_length encR57_len _) (one_all encR57_one _) (.inl rfl)) Try.underlying54 ⟨_,Try.underlying54,by intro k hk; cases hk⟩ el58 rfl encR57_len rfl rfl (by decide) hl2_20) rfl)<| .read rfl (.c (.put (fun E hE => .assign (l1 rfl) (.tmp (hE.at (k := 0) rfl)))) (.n))<| .nil _) (fun E hE => .c (DInv.at hE (k := 0) rfl rfl rfl)<| .c (DInv.at hE (k := 20) rfl rfl rfl)<| .c (DInv.at hE (k := 3) rfl rfl rfl)<| .c (DInv.at hE (k := 4) rfl rfl rfl)<| .c (DInv.at hE (k := 5) rfl rfl rfl)<| .n _) rfl ?_
    refine AWP.vc (s' := ⟨[(2,.ptr 1 0),(6,.own 2 4 0 l2_20.length),(30,rW false y_2 eW),(31,iW (y_2.length : Int)),(32,iW x_15.1)],[(2,⟨58,true,l2_20.flatMap encR57⟩),(1,⟨58,false,(gW false false β3 a0.Gq a0.Path a0.Ln)⟩)]⟩) (VC.sub (.of rfl) (.of rfl)) ?_
    obtain ⟨t32_21,ht32_21,h⟩ := letS h
    refine AWP.rg (.cons (.add (l1 rfl) (.t rfl) (.const _ _ _))<| .cons (.move (l1 rfl) (.t rfl))<| ARun.nil _ _ _) ?_
    exact endJ (t32_21,l2_20) h (by subst ht32_21; exact VC.sub (.of rfl) (.of rfl))
   ·have h := iteF hc h
    refine AWP.exit ?_
    exact endJ x_15.2 h (VC.sub (.of rfl) (.of rfl))
theorem c73 {β1 : Bool} (n : Nat) (a0 : (List Int)) (a1 : Int) {r : Bool} (h : m73 n a0 a1 = some r) : Spec Try.prog 73 [] [rW β1 a0 eW,iW a1] [] (bW r) [] := by
 refine Spec.of (fn := Try.f73) Try.func73 Try.ntmps73 rfl rfl (le1 rfl) (fun w0 Zs Zb T0 ι0 => ?_)
 unfold m73 at h
 refine AWP.seq ?_
 refine AWP.rg (.cons (.assign (l1 rfl) (.const _ _ _))<| ARun.nil _ _ _) ?_
 refine AWP.vc (s' := ⟨[(0,rW β1 a0 eW),(1,iW a1)],[]⟩) (VC.sub (.of rfl) (.n _)) ?_
 refine AWP.seq ?_
 refine AWP.seq ?_
 refine AWP.rg (.cons (.assign (l1 rfl) (.const _ _ _))<| ARun.nil _ _ _) ?_
 refine AWP.vc (s' := ⟨[(0,rW β1 a0 eW),(1,iW a1),(5,iW (0 : Int))],[]⟩) (VC.sub (.of rfl) (.n _)) ?_
 refine AWP.joinB' (S := fun p_8 : Unit => ⟨[],[]⟩) h (fun p_8 h => ?_) (fun k_9 h => ?_)
 ·refine AWP.seq ?_
  refine AWP.rg (.cons (.assign (l1 rfl) (.const _ _ _))<| ARun.nil _ _ _) ?_
  refine AWP.ret ?_
  obtain rfl := Option.some.inj h
  refine retJ (Res.vc (s' := ⟨[(4,bW false)],[]⟩) (VC.sub (.of rfl) (.n _)) ?_)
  refine Res.drop (H := []) rfl ?_
  exact Res.of rfl (.cons (.tmp rfl) (.nil)) rfl rfl
 ·refine AWP.vc (s' := ⟨[(0,rW β1 a0 eW),(1,iW a1),(5,iW (0 : Int))],[]⟩) (VC.sub (.of rfl) (.n _)) ?_
  refine AWP.loopM (S := fun x_4 : Int => ⟨[(0,rW β1 a0 eW),(1,iW a1),(5,iW x_4)],[]⟩) (x := (0 : Int)) (fun nx_5 x_4 h => ?_) h
  unfold m73_L1 at h
  refine AWP.seq ?_
  refine AWP.seq ?_
  refine AWP.rg (.cons (.move (l1 rfl) (.t rfl))<| .cons (.move (l1 rfl) (.t rfl))<| .cons (.lenRd (l1 rfl) (.t rfl) Try.underlying28)<| .cons (.lss (l1 rfl) (.t rfl) (.t rfl))<| ARun.nil _ _ _) ?_
  refine AWP.vc (s' := ⟨[(0,rW β1 a0 eW),(1,iW a1),(5,iW x_4),(9,bW (decide (x_4 < (a0.length : Int))))],[]⟩) (VC.sub (.of rfl) (.n _)) ?_
  refine AWP.cond (.t rfl) (fun hc => ?_) (fun hc => ?_)
  ·have h := iteT hc h
   refine AWP.skip ?_
   refine AWP.seq ?_
   refine AWP.block ?_
   refine AWP.seq ?_
   obtain ⟨y_6,hy_6,h⟩ := bindS h
   refine AWP.rg (.cons (.move (l1 rfl) (.t rfl))<| .cons (.move (l1 rfl) (.t rfl))<| .cons (.indexRd (enc := eW) (l1 rfl) (.t rfl) (.t rfl) Try.underlying28 sz3 (encI_len .i64) rfl hy_6)<| .cons (.loadR (v := iW y_6) (l1 rfl) (.t rfl) one3 rfl)<| .cons (.move (l1 rfl) (.t rfl))<| .cons (.eql (l1 rfl) (.t rfl) (.t rfl))<| ARun.nil _ _ _) ?_
   refine AWP.vc (s' := ⟨[(0,rW β1 a0 eW),(1,iW a1),(5,iW x_4),(17,bW (decide (y_6 = a1)))],[]⟩) (VC.sub (.of rfl) (.n _)) ?_
   refine AWP.cond (.t rfl) (fun hc => ?_) (fun hc => ?_)
   ·have h := iteT hc h
    refine AWP.seq ?_
    refine AWP.rg (.cons (.assign (l1 rfl) (.const _ _ _))<| ARun.nil _ _ _) ?_
    refine AWP.ret ?_
    obtain rfl := Option.some.inj h
    refine retJ (Res.vc (s' := ⟨[(4,bW true)],[]⟩) (VC.sub (.of rfl) (.n _)) ?_)
    refine Res.drop (H := []) rfl ?_
    exact Res.of rfl (.cons (.tmp rfl) (.nil)) rfl rfl
   ·have h := iteF hc h
    refine AWP.skip ?_
    obtain ⟨t5_7,ht5_7,h⟩ := letS h
    refine AWP.rg (.cons (.move (l1 rfl) (.t rfl))<| .cons (.add (l1 rfl) (.t rfl) (.const _ _ _))<| .cons (.assign (l1 rfl) (.t rfl))<| ARun.nil _ _ _) ?_
    exact endJ t5_7 h (by subst ht5_7; exact VC.sub (.of rfl) (.n _))
  ·have h := iteF hc h
   refine AWP.exit ?_
   exact endJ () h (VC.sub (.n _) (.n _))
theorem c45 {β1 : Bool} {β2 : Bool} {β3 : Bool} (n : Nat) (a0 : R24) (a1 : (List Int)) {r : (List Int)} (h : m45 n a0 a1 = some r) : Spec Try.prog 45 [] [.agg (pW β1 β2 a0),rW β3 a1 eW] [] (rW false r eW) [] := by
 refine Spec.of (fn := Try.f45) Try.func45 Try.ntmps45 rfl rfl (le1 rfl) (fun w0 Zs Zb T0 ι0 => ?_)
 unfold m45 at h
 refine AWP.seq ?_
 refine AWP.rg (.cons (.box (t := 1) (n := 2) (l1 rfl) (nm rfl) (.t rfl) (by first | exact ⟨rfl,rfl⟩ | rfl) rfl)<| .cons (.assign (l1 rfl) (.const _ _ _))<| ARun.nil _ _ _) ?_
 refine AWP.vc (s' := ⟨[(1,rW β3 a1 eW),(2,.ptr 1 0)],[(1,⟨25,false,(pW β1 β2 a0)⟩)]⟩) (VC.sub (.of rfl) (.of rfl)) ?_
 refine AWP.seq ?_
 refine AWP.rg (.cons (.assign (l1 rfl) (.const _ _ _))<| ARun.nil _ _ _) ?_
 refine AWP.vc (s' := ⟨[(1,rW β3 a1 eW),(2,.ptr 1 0),(5,.sc (.slice none 0 0))],[(1,⟨25,false,(pW β1 β2 a0)⟩)]⟩) (VC.sub (.of rfl) (.of rfl)) ?_
 refine AWP.seq ?_
 refine AWP.seq ?_
 refine AWP.rg (.cons (.assign (l1 rfl) (.const _ _ _))<| ARun.nil _ _ _) ?_
 refine AWP.vc (s' := ⟨[(1,rW β3 a1 eW),(2,.ptr 1 0),(5,.sc (.slice none 0 0)),(6,iW (0 : Int))],[(1,⟨25,false,(pW β1 β2 a0)⟩)]⟩) (VC.sub (.of rfl) (.of rfl)) ?_
 refine AWP.joinB' (S := fun p_74 : (List Int) => ⟨[(5,.own 2 1 0 p_74.length)],[(2,⟨3,true,p_74.flatMap eW⟩)]⟩) h (fun p_74 h => ?_) (fun k_75 h => ?_)
 ·refine AWP.seq ?_
  refine AWP.rg (.cons (.move (l1 rfl) (.t rfl))<| .cons (.assign (l1 rfl) (.t rfl))<| ARun.nil _ _ _) ?_
  refine AWP.ret ?_
  obtain rfl := Option.some.inj h
  refine retJ (Res.vc (s' := ⟨[(4,rW false p_74 eW)],[]⟩) (VC.trans (VC.frz (d := 4) (t := 2) rfl rfl (encI_len .i64)) (VC.sub (.of rfl) (.n _))) ?_)
  refine Res.drop (H := []) rfl ?_
  exact Res.of rfl (.cons (.tmp rfl) (.nil)) rfl rfl
 ·refine AWP.vc (VC.nilOwn (d := 5) (t := 2) (sz := 1) (E := 3) rfl (nm rfl)) ?_
  refine AWP.vc (s' := ⟨[(1,rW β3 a1 eW),(2,.ptr 1 0),(5,.own 2 1 0 ([] : List Int).length),(6,iW (0 : Int))],[(1,⟨25,false,(pW β1 β2 a0)⟩),(2,⟨3,true,([] : List Int).flatMap eW⟩)]⟩) (VC.sub (.of rfl) (.of rfl)) ?_
  refine AWP.loopM (S := fun x_49 : Int × (List Int) => ⟨[(1,rW β3 a1 eW),(2,.ptr 1 0),(5,.own 2 1 0 x_49.2.length),(6,iW x_49.1)],[(1,⟨25,false,(pW β1 β2 a0)⟩),(2,⟨3,true,x_49.2.flatMap eW⟩)]⟩) (x := ((0 : Int),([] : List Int))) (fun nx_50 x_49 h => ?_) h
  unfold m45_L3 at h
  refine AWP.seq ?_
  refine AWP.seq ?_
  refine AWP.rg (.cons (.move (l1 rfl) (.t rfl))<| .cons (.fieldP (l1 rfl) (.t rfl) fld25_0)<| .cons (.loadP (l1 rfl) (.t rfl) one22 rfl rfl rfl)<| .cons (.lenRd (l1 rfl) (.t rfl) Try.underlying22)<| .cons (.lss (l1 rfl) (.t rfl) (.t rfl))<| ARun.nil _ _ _) ?_
  refine AWP.vc (s' := ⟨[(1,rW β3 a1 eW),(2,.ptr 1 0),(5,.own 2 1 0 x_49.2.length),(6,iW x_49.1),(13,bW (decide (x_49.1 < (a0.Pq.length : Int))))],[(1,⟨25,false,(pW β1 β2 a0)⟩),(2,⟨3,true,x_49.2.flatMap eW⟩)]⟩) (VC.sub (.of rfl) (.of rfl)) ?_
  refine AWP.cond (.t rfl) (fun hc => ?_) (fun hc => ?_)
  ·have h := iteT hc h
   refine AWP.skip ?_
   refine AWP.seq ?_
   refine AWP.block ?_
   refine AWP.seq ?_
   obtain ⟨y_51,hy_51,h⟩ := bindS h
   refine AWP.rg (.cons (.move (l1 rfl) (.t rfl))<| .cons (.move (l1 rfl) (.t rfl))<| .cons (.call0 (bw := false) (l1 rfl) (c73 (β1 := β3) n a1 x_49.1 hy_51) (.cons (.t rfl) (.ren rfl) (.cons (.t rfl) (.ren rfl) (.nil))) rfl)<| .cons (.not (l1 rfl) (.t rfl))<| .cons (.assign (l1 rfl) (.t rfl))<| ARun.nil _ _ _) ?_
   refine AWP.vc (s' := ⟨[(1,rW β3 a1 eW),(2,.ptr 1 0),(5,.own 2 1 0 x_49.2.length),(6,iW x_49.1),(7,bW (!y_51))],[(1,⟨25,false,(pW β1 β2 a0)⟩),(2,⟨3,true,x_49.2.flatMap eW⟩)]⟩) (VC.sub (.of rfl) (.of rfl)) ?_
   refine AWP.seq ?_
   refine AWP.seq ?_
   refine AWP.rg (.cons (.assign (l1 rfl) (.const _ _ _))<| ARun.nil _ _ _) ?_
   refine AWP.vc (s' := ⟨[(1,rW β3 a1 eW),(2,.ptr 1 0),(5,.own 2 1 0 x_49.2.length),(6,iW x_49.1),(7,bW (!y_51)),(8,iW (0 : Int))],[(1,⟨25,false,(pW β1 β2 a0)⟩),(2,⟨3,true,x_49.2.flatMap eW⟩)]⟩) (VC.sub (.of rfl) (.of rfl)) ?_
   refine AWP.joinB' (S := fun p_68 : Bool => ⟨[(1,rW β3 a1 eW),(2,.ptr 1 0),(5,.own 2 1 0 x_49.2.length),(6,iW x_49.1),(7,bW p_68)],[(1,⟨25,false,(pW β1 β2 a0)⟩),(2,⟨3,true,x_49.2.flatMap eW⟩)]⟩) h (fun p_68 h => ?_) (fun k_69 h => ?_)
   ·refine AWP.seq ?_
    refine AWP.rg (.cons (.move (l1 rfl) (.t rfl))<| ARun.nil _ _ _) ?_
    refine AWP.vc (s' := ⟨[(1,rW β3 a1 eW),(2,.ptr 1 0),(5,.own 2 1 0 x_49.2.length),(6,iW x_49.1),(48,bW p_68)],[(1,⟨25,false,(pW β1 β2 a0)⟩),(2,⟨3,true,x_49.2.flatMap eW⟩)]⟩) (VC.sub (.of rfl) (.of rfl)) ?_
    refine AWP.join' (S := fun p_71 : (List Int) => ⟨[(1,rW β3 a1 eW),(2,.ptr 1 0),(5,.own 2 1 0 p_71.length),(6,iW x_49.1)],[(1,⟨25,false,(pW β1 β2 a0)⟩),(2,⟨3,true,p_71.flatMap eW⟩)]⟩) h (fun p_71 h => ?_) (fun k_72 h => ?_)
    ·obtain ⟨t6_73,ht6_73,h⟩ := letS h
     refine AWP.rg (.cons (.move (l1 rfl) (.t rfl))<| .cons (.add (l1 rfl) (.t rfl) (.const _ _ _))<| .cons (.assign (l1 rfl) (.t rfl))<| ARun.nil _ _ _) ?_
     exact endJ (t6_73,p_71) h (by subst ht6_73; exact VC.sub (.of rfl) (.of rfl))
    ·refine AWP.cond (.t rfl) (fun hc => ?_) (fun hc => ?_)
     ·have h := iteT hc h
      obtain ⟨l2_70,hl2_70,h⟩ := bindS h
      refine AWP.rg (.cons (.move (l1 rfl) (.t rfl))<| .cons (.move (l1 rfl) (.t rfl))<| .cons (.buildSlice (t := 3) (out := ([x_49.1] : List Int).flatMap eW) (l1 rfl) (nm rfl) (.cons (.t rfl) (by first | exact ⟨rfl,rfl⟩ | rfl) (.nil)) Try.underlying28 zero3 el3 (by decide) (by decide) rfl (still_all (encI_still .i64) _))<| .cons (.app (enc := eW) (l1 rfl) (nm rfl) (.t rfl) (Src.own (.t rfl) rfl (lendAll (encI_len .i64) _) (flatMap_length (encI_len .i64) _) (one_all (encI_one .i64) _) (.inl rfl)) Try.underlying28 ⟨_,Try.underlying28,by intro k hk; cases hk⟩ el3 rfl (encI_len .i64) rfl rfl (by decide) hl2_70)<| .cons (.assign (l1 rfl) (.t rfl))<| ARun.nil _ _ _) ?_
      exact endJ l2_70 h (VC.sub (.of rfl) (.of rfl))
     ·have h := iteF hc h
      refine AWP.skip ?_
      exact endJ x_49.2 h (VC.sub (.of rfl) (.of rfl))
   ·refine AWP.vc (s' := ⟨[(1,rW β3 a1 eW),(2,.ptr 1 0),(5,.own 2 1 0 x_49.2.length),(6,iW x_49.1),(7,bW (!y_51)),(8,iW (0 : Int))],[(1,⟨25,false,(pW β1 β2 a0)⟩),(2,⟨3,true,x_49.2.flatMap eW⟩)]⟩) (VC.sub (.of rfl) (.of rfl)) ?_
    refine AWP.loopM (S := fun x_62 : Bool × Int => ⟨[(1,rW β3 a1 eW),(2,.ptr 1 0),(5,.own 2 1 0 x_49.2.length),(6,iW x_49.1),(7,bW x_62.1),(8,iW x_62.2)],[(1,⟨25,false,(pW β1 β2 a0)⟩),(2,⟨3,true,x_49.2.flatMap eW⟩)]⟩) (x := ((!y_51),(0 : Int))) (fun nx_63 x_62 h => ?_) h
    unfold m45_L4 at h
    refine AWP.seq ?_
    refine AWP.seq ?_
    refine AWP.rg (.cons (.move (l1 rfl) (.t rfl))<| .cons (.fieldP (l1 rfl) (.t rfl) fld25_1)<| .cons (.loadP (l1 rfl) (.t rfl) one23 rfl rfl rfl)<| .cons (.lenRd (l1 rfl) (.t rfl) Try.underlying23)<| .cons (.lss (l1 rfl) (.t rfl) (.t rfl))<| ARun.nil _ _ _) ?_
    refine AWP.vc (s' := ⟨[(1,rW β3 a1 eW),(2,.ptr 1 0),(5,.own 2 1 0 x_49.2.length),(6,iW x_49.1),(7,bW x_62.1),(8,iW x_62.2),(24,bW (decide (x_62.2 < (a0.Bq.length : Int))))],[(1,⟨25,false,(pW β1 β2 a0)⟩),(2,⟨3,true,x_49.2.flatMap eW⟩)]⟩) (VC.sub (.of rfl) (.of rfl)) ?_
    refine AWP.cond (.t rfl) (fun hc => ?_) (fun hc => ?_)
    ·have h := iteT hc h
     refine AWP.skip ?_
     refine AWP.seq ?_
     refine AWP.block ?_
     obtain ⟨y_64,hy_64,h⟩ := bindS h
     obtain ⟨y_65,hy_65,h⟩ := bindS h
     obtain ⟨y_66,hy_66,h⟩ := bindS h
     refine AWP.rg (.cons (.move (l1 rfl) (.t rfl))<| .cons (.move (l1 rfl) (.t rfl))<| .guard (j := 1) (dj := 28) rfl (l1 rfl) rfl (l1 rfl) (fun hg => .fieldP (l1 rfl) (.t rfl) fld25_1)<| .guard (j := 1) (dj := 28) rfl (l1 rfl) rfl (l1 rfl) (fun hg => .loadP (l1 rfl) (.gd hg (.t rfl)) one23 rfl rfl rfl)<| .guard (j := 1) (dj := 28) rfl (l1 rfl) rfl (l1 rfl) (fun hg => .move (l1 rfl) (.t rfl))<| .guard (j := 1) (dj := 28) rfl (l1 rfl) rfl (l1 rfl) (fun hg => .indexRd (enc := e93) (l1 rfl) (.gd hg (.t rfl)) (.gd hg (.t rfl)) Try.underlying23 sz93 encR93_len rfl (gdB hy_64 hg))<| .guard (j := 1) (dj := 28) rfl (l1 rfl) rfl (l1 rfl) (fun hg => .idxR (l1 rfl) (.gd hg (.t rfl)) (.const _ _ _) Try.underlying93 sz3 (by decide) rfl)<| .guard (j := 1) (dj := 28) rfl (l1 rfl) rfl (l1 rfl) (fun hg => .loadR (v := iW y_64.f1) (l1 rfl) (.gd hg (.t rfl)) one3 rfl)<| .guard (j := 1) (dj := 28) rfl (l1 rfl) rfl (l1 rfl) (fun hg => .move (l1 rfl) (.t rfl))<| .guard (j := 1) (dj := 28) rfl (l1 rfl) rfl (l1 rfl) (fun hg => .neq (l1 rfl) (.gd hg (.t rfl)) (.gd hg (.t rfl)))<| .guard (j := 1) (dj := 28) rfl (l1 rfl) rfl (l1 rfl) (fun hg => .move (l1 rfl) (.gd hg (.t rfl)))<| .guard2 (j := 10) (dj := 37) rfl (l1 rfl) rfl (l1 rfl) (fun hg => .move (l1 rfl) (.t rfl))<| .guard2 (j := 10) (dj := 37) rfl (l1 rfl) rfl (l1 rfl) (fun hg => .fieldP (l1 rfl) (.t rfl) fld25_1)<| .guard2 (j := 10) (dj := 37) rfl (l1 rfl) rfl (l1 rfl) (fun hg => .loadP (l1 rfl) (.gd hg (.t rfl)) one23 rfl rfl rfl)<| .guard2 (j := 10) (dj := 37) rfl (l1 rfl) rfl (l1 rfl) (fun hg => .move (l1 rfl) (.t rfl))<| .guard2 (j := 10) (dj := 37) rfl (l1 rfl) rfl (l1 rfl) (fun hg => .indexRd (enc := e93) (l1 rfl) (.gd hg (.t rfl)) (.gd hg (.t rfl)) Try.underlying23 sz93 encR93_len rfl (gdB hy_65 hg))<| .guard2 (j := 10) (dj := 37) rfl (l1 rfl) rfl (l1 rfl) (fun hg => .idxR (l1 rfl) (.gd hg (.t rfl)) (.const _ _ _) Try.underlying93 sz3 (by decide) rfl)<| .guard2 (j := 10) (dj := 37) rfl (l1 rfl) rfl (l1 rfl) (fun hg => .loadR (v := iW y_65.f0) (l1 rfl) (.gd hg (.t rfl)) one3 rfl)<| .guard2 (j := 10) (dj := 37) rfl (l1 rfl) rfl (l1 rfl) (fun hg => .call0 (bw := false) (l1 rfl) (c73 (β1 := β3) n a1 y_65.f0 (gdB hy_66 hg)) (.cons (.gd hg (.t rfl)) (.ren rfl) (.cons (.gd hg (.t rfl)) (.ren rfl) (.nil))) rfl)<| .guard (j := 1) (dj := 28) rfl (l1 rfl) rfl (l1 rfl) (fun hg => .pickOr (l1 rfl) (.gd hg (.t rfl)) (.const _ _ _) (.gdAnd hg (.t rfl)))<| .cons (.pickAnd (l1 rfl) (.t rfl) (.t rfl) (.const _ _ _))<| .cons (.assign (l1 rfl) (.t rfl))<| ARun.nil _ _ _) ?_
     refine AWP.vc (s' := ⟨[(1,rW β3 a1 eW),(2,.ptr 1 0),(5,.own 2 1 0 x_49.2.length),(6,iW x_49.1),(7,bW (x_62.1 && ((!decide (y_64.f1 = x_49.1)) || y_66))),(8,iW x_62.2)],[(1,⟨25,false,(pW β1 β2 a0)⟩),(2,⟨3,true,x_49.2.flatMap eW⟩)]⟩) (VC.sub (.of rfl) (.of rfl)) ?_
     obtain ⟨t8_67,ht8_67,h⟩ := letS h
     refine AWP.rg (.cons (.move (l1 rfl) (.t rfl))<| .cons (.add (l1 rfl) (.t rfl) (.const _ _ _))<| .cons (.assign (l1 rfl) (.t rfl))<| ARun.nil _ _ _) ?_
     exact endJ ((x_62.1 && ((!decide (y_64.f1 = x_49.1)) || y_66)),t8_67) h (by subst ht8_67; exact VC.sub (.of rfl) (.of rfl))
    ·have h := iteF hc h
     refine AWP.exit ?_
     exact endJ x_62.1 h (VC.sub (.of rfl) (.of rfl))
  ·have h := iteF hc h
   refine AWP.exit ?_
   exact endJ x_49.2 h (VC.sub (.of rfl) (.of rfl))
theorem c15 {β1 : Bool} {β2 : Bool} (n : Nat) (a0 : R24) {r : Bool} (h : m15 n a0 = some r) : Spec Try.prog 15 [] [.agg (pW β1 β2 a0)] [] (bW r) [] := by
 refine Spec.of (fn := Try.f15) Try.func15 Try.ntmps15 rfl rfl (le1 rfl) (fun w0 Zs Zb T0 ι0 => ?_)
 unfold m15 at h
 refine AWP.seq ?_
 refine AWP.rg (.cons (.box (t := 1) (n := 2) (l1 rfl) (nm rfl) (.t rfl) (by first | exact ⟨rfl,rfl⟩ | rfl) rfl)<| .cons (.assign (l1 rfl) (.const _ _ _))<| ARun.nil _ _ _) ?_
 refine AWP.vc (s' := ⟨[(1,.ptr 1 0)],[(1,⟨25,false,(pW β1 β2 a0)⟩)]⟩) (VC.sub (.of rfl) (.of rfl)) ?_
 refine AWP.seq ?_
 refine AWP.rg (.cons (.fieldP (l1 rfl) (.t rfl) fld25_0)<| .cons (.loadP (l1 rfl) (.t rfl) one22 rfl rfl rfl)<| .cons (.lenRd (l1 rfl) (.t rfl) Try.underlying22)<| .cons (.assign (l1 rfl) (.t rfl))<| ARun.nil _ _ _) ?_
 refine AWP.vc (s' := ⟨[(1,.ptr 1 0),(3,iW (a0.Pq.length : Int))],[(1,⟨25,false,(pW β1 β2 a0)⟩)]⟩) (VC.sub (.of rfl) (.of rfl)) ?_
 refine AWP.seq ?_
 refine AWP.seq ?_
 refine AWP.rg (.cons (.move (l1 rfl) (.t rfl))<| .cons (.lss (l1 rfl) (.t rfl) (.const _ _ _))<| .cons (.move (l1 rfl) (.t rfl))<| .guard (j := 2) (dj := 15) rfl (l1 rfl) rfl (l1 rfl) (fun hg => .move (l1 rfl) (.t rfl))<| .guard (j := 2) (dj := 15) rfl (l1 rfl) rfl (l1 rfl) (fun hg => .gtr (l1 rfl) (.gd hg (.t rfl)) (.const _ _ _))<| .cons (.pickOr (l1 rfl) (.t rfl) (.const _ _ _) (.t rfl))<| .cons (.move (l1 rfl) (.t rfl))<| .guard (j := 6) (dj := 19) rfl (l1 rfl) rfl (l1 rfl) (fun hg => .fieldP (l1 rfl) (.t rfl) fld25_1)<| .guard (j := 6) (dj := 19) rfl (l1 rfl) rfl (l1 rfl) (fun hg => .loadP (l1 rfl) (.gd hg (.t rfl)) one23 rfl rfl rfl)<| .guard (j := 6) (dj := 19) rfl (l1 rfl) rfl (l1 rfl) (fun hg => .lenRd (l1 rfl) (.gd hg (.t rfl)) Try.underlying23)<| .guard (j := 6) (dj := 19) rfl (l1 rfl) rfl (l1 rfl) (fun hg => .gtr (l1 rfl) (.gd hg (.t rfl)) (.const _ _ _))<| .cons (.pickOr (l1 rfl) (.t rfl) (.const _ _ _) (.t rfl))<| ARun.nil _ _ _) ?_
 refine AWP.vc (s' := ⟨[(1,.ptr 1 0),(3,iW (a0.Pq.length : Int)),(24,bW (((decide ((a0.Pq.length : Int) < (1 : Int))) || (decide ((60 : Int) < (a0.Pq.length : Int)))) || (decide ((200 : Int) < (a0.Bq.length : Int)))))],[(1,⟨25,false,(pW β1 β2 a0)⟩)]⟩) (VC.sub (.of rfl) (.of rfl)) ?_
 refine AWP.cond (.t rfl) (fun hc => ?_) (fun hc => ?_)
 ·have h := iteT hc h
  refine AWP.seq ?_
  refine AWP.rg (.cons (.assign (l1 rfl) (.const _ _ _))<| ARun.nil _ _ _) ?_
  refine AWP.ret ?_
  obtain rfl := Option.some.inj h
  refine retJ (Res.vc (s' := ⟨[(2,bW false)],[]⟩) (VC.sub (.of rfl) (.n _)) ?_)
  refine Res.drop (H := []) rfl ?_
  exact Res.of rfl (.cons (.tmp rfl) (.nil)) rfl rfl
 ·have h := iteF hc h
  refine AWP.skip ?_
  refine AWP.seq ?_
  refine AWP.seq ?_
  refine AWP.rg (.cons (.assign (l1 rfl) (.const _ _ _))<| ARun.nil _ _ _) ?_
  refine AWP.vc (s' := ⟨[(1,.ptr 1 0),(3,iW (a0.Pq.length : Int)),(4,iW (0 : Int))],[(1,⟨25,false,(pW β1 β2 a0)⟩)]⟩) (VC.sub (.of rfl) (.of rfl)) ?_
  refine AWP.joinB' (S := fun p_8 : Unit => ⟨[(1,.ptr 1 0),(3,iW (a0.Pq.length : Int))],[(1,⟨25,false,(pW β1 β2 a0)⟩)]⟩) h (fun p_8 h => ?_) (fun k_9 h => ?_)
  ·refine AWP.seq ?_
   refine AWP.seq ?_
   refine AWP.rg (.cons (.assign (l1 rfl) (.const _ _ _))<| ARun.nil _ _ _) ?_
   refine AWP.vc (s' := ⟨[(1,.ptr 1 0),(3,iW (a0.Pq.length : Int)),(6,iW (0 : Int))],[(1,⟨25,false,(pW β1 β2 a0)⟩)]⟩) (VC.sub (.of rfl) (.of rfl)) ?_
   refine AWP.joinB' (S := fun p_19 : Unit => ⟨[(1,.ptr 1 0),(3,iW (a0.Pq.length : Int))],[(1,⟨25,false,(pW β1 β2 a0)⟩)]⟩) h (fun p_19 h => ?_) (fun k_20 h => ?_)
   ·refine AWP.seq ?_
    refine AWP.rg (.cons (.buildSlice (t := 4) (out := ([(0 : Int)] : List Int).flatMap eW) (l1 rfl) (nm rfl) (.cons (.const _ _ _) (by first | exact ⟨rfl,rfl⟩ | rfl) (.nil)) Try.underlying28 zero3 el3 (by decide) (by decide) rfl (still_all (encI_still .i64) _))<| .cons (.assign (l1 rfl) (.t rfl))<| ARun.nil _ _ _) ?_
    refine AWP.vc (s' := ⟨[(1,.ptr 1 0),(3,iW (a0.Pq.length : Int)),(8,.own 4 1 0 ([(0 : Int)] : List Int).length)],[(4,⟨3,true,([(0 : Int)] : List Int).flatMap eW⟩),(1,⟨25,false,(pW β1 β2 a0)⟩)]⟩) (VC.sub (.of rfl) (.of rfl)) ?_
    refine AWP.seq ?_
    refine AWP.joinB' (S := fun p_34 : Unit => ⟨[],[]⟩) h (fun p_34 h => ?_) (fun k_35 h => ?_)
    ·refine AWP.seq ?_
     refine AWP.rg (.cons (.assign (l1 rfl) (.const _ _ _))<| ARun.nil _ _ _) ?_
     refine AWP.ret ?_
     obtain rfl := Option.some.inj h
     refine retJ (Res.vc (s' := ⟨[(2,bW true)],[]⟩) (VC.sub (.of rfl) (.n _)) ?_)
     refine Res.drop (H := []) rfl ?_
     exact Res.of rfl (.cons (.tmp rfl) (.nil)) rfl rfl
    ·refine AWP.vc (s' := ⟨[(1,.ptr 1 0),(3,iW (a0.Pq.length : Int)),(8,.own 4 1 0 ([(0 : Int)] : List Int).length)],[(1,⟨25,false,(pW β1 β2 a0)⟩),(4,⟨3,true,([(0 : Int)] : List Int).flatMap eW⟩)]⟩) (VC.sub (.of rfl) (.of rfl)) ?_
     refine AWP.loopM (S := fun x_29 : (List Int) => ⟨[(1,.ptr 1 0),(3,iW (a0.Pq.length : Int)),(8,.own 4 1 0 x_29.length)],[(1,⟨25,false,(pW β1 β2 a0)⟩),(4,⟨3,true,x_29.flatMap eW⟩)]⟩) (x := ([(0 : Int)] : List Int)) (fun nx_30 x_29 h => ?_) h
     unfold m15_L3 at h
     refine AWP.seq ?_
     refine AWP.seq ?_
     refine AWP.rg (.cons (.move (l1 rfl) (.t rfl))<| .cons (.lenOwn (l1 rfl) (.t rfl) Try.underlying28)<| .cons (.move (l1 rfl) (.t rfl))<| .cons (.lss (l1 rfl) (.t rfl) (.t rfl))<| ARun.nil _ _ _) ?_
     refine AWP.vc (s' := ⟨[(1,.ptr 1 0),(3,iW (a0.Pq.length : Int)),(8,.own 4 1 0 x_29.length),(96,bW (decide ((x_29.length : Int) < (a0.Pq.length : Int))))],[(1,⟨25,false,(pW β1 β2 a0)⟩),(4,⟨3,true,x_29.flatMap eW⟩)]⟩) (VC.sub (.of rfl) (.of rfl)) ?_
     refine AWP.cond (.t rfl) (fun hc => ?_) (fun hc => ?_)
     ·have h := iteT hc h
      refine AWP.skip ?_
      refine AWP.block ?_
      refine AWP.seq ?_
      obtain ⟨y_31,hy_31,h⟩ := bindS h
      refine AWP.rg (.cons (.loadPA (l1 rfl) (.t rfl) agg25 rfl rfl rfl rfl)<| .cons (.move (l1 rfl) (.t rfl))<| .cons (.call0 (bw := true) (l1 rfl) (c45 (β1 := β1) (β2 := β2) (β3 := true) n (R24.mk a0.Pq a0.Bq) x_29 hy_31) (.cons (.t rfl) (.ren rfl) (.cons (.t rfl) (.lendRow rfl rfl (encI_len .i64) rfl) (.nil))) rfl)<| .cons (.assign (l1 rfl) (.t rfl))<| ARun.nil _ _ _) ?_
      refine AWP.vc (s' := ⟨[(1,.ptr 1 0),(3,iW (a0.Pq.length : Int)),(8,.own 4 1 0 x_29.length),(9,rW false y_31 eW)],[(1,⟨25,false,(pW β1 β2 a0)⟩),(4,⟨3,true,x_29.flatMap eW⟩)]⟩) (VC.sub (.of rfl) (.of rfl)) ?_
      refine AWP.seq ?_
      refine AWP.seq ?_
      refine AWP.rg (.cons (.move (l1 rfl) (.t rfl))<| .cons (.lenRd (l1 rfl) (.t rfl) Try.underlying28)<| .cons (.eql (l1 rfl) (.t rfl) (.const _ _ _))<| ARun.nil _ _ _) ?_
      refine AWP.vc (s' := ⟨[(1,.ptr 1 0),(3,iW (a0.Pq.length : Int)),(8,.own 4 1 0 x_29.length),(9,rW false y_31 eW),(102,bW (decide ((y_31.length : Int) = (0 : Int))))],[(1,⟨25,false,(pW β1 β2 a0)⟩),(4,⟨3,true,x_29.flatMap eW⟩)]⟩) (VC.sub (.of rfl) (.of rfl)) ?_
      refine AWP.cond (.t rfl) (fun hc => ?_) (fun hc => ?_)
      ·have h := iteT hc h
       refine AWP.seq ?_
       refine AWP.rg (.cons (.assign (l1 rfl) (.const _ _ _))<| ARun.nil _ _ _) ?_
       refine AWP.ret ?_
       obtain rfl := Option.some.inj h
       refine retJ (Res.vc (s' := ⟨[(2,bW false)],[]⟩) (VC.sub (.of rfl) (.n _)) ?_)
       refine Res.drop (H := []) rfl ?_
       exact Res.of rfl (.cons (.tmp rfl) (.nil)) rfl rfl
      ·have h := iteF hc h
       refine AWP.skip ?_
       obtain ⟨y_32,hy_32,h⟩ := bindS h
       obtain ⟨l4_33,hl4_33,h⟩ := bindS h
       refine AWP.rg (.cons (.move (l1 rfl) (.t rfl))<| .cons (.move (l1 rfl) (.t rfl))<| .cons (.indexRd (enc := eW) (l1 rfl) (.t rfl) (.const _ _ _) Try.underlying28 sz3 (encI_len .i64) rfl hy_32)<| .cons (.loadR (v := iW y_32) (l1 rfl) (.t rfl) one3 rfl)<| .cons (.buildSlice (t := 5) (out := ([y_32] : List Int).flatMap eW) (l1 rfl) (nm rfl) (.cons (.t rfl) (by first | exact ⟨rfl,rfl⟩ | rfl) (.nil)) Try.underlying28 zero3 el3 (by decide) (by decide) rfl (still_all (encI_still .i64) _))<| .cons (.app (enc := eW) (l1 rfl) (nm rfl) (.t rfl) (Src.own (.t rfl) rfl (lendAll (encI_len .i64) _) (flatMap_length (encI_len .i64) _) (one_all (encI_one .i64) _) (.inl rfl)) Try.underlying28 ⟨_,Try.underlying28,by intro k hk; cases hk⟩ el3 rfl (encI_len .i64) rfl rfl (by decide) hl4_33)<| .cons (.assign (l1 rfl) (.t rfl))<| ARun.nil _ _ _) ?_
       exact endJ l4_33 h (VC.sub (.of rfl) (.of rfl))
     ·have h := iteF hc h
      refine AWP.exit ?_
      exact endJ () h (VC.sub (.n _) (.n _))
   ·refine AWP.vc (s' := ⟨[(1,.ptr 1 0),(3,iW (a0.Pq.length : Int)),(6,iW (0 : Int))],[(1,⟨25,false,(pW β1 β2 a0)⟩)]⟩) (VC.sub (.of rfl) (.of rfl)) ?_
    refine AWP.loopM (S := fun x_14 : Int => ⟨[(1,.ptr 1 0),(3,iW (a0.Pq.length : Int)),(6,iW x_14)],[(1,⟨25,false,(pW β1 β2 a0)⟩)]⟩) (x := (0 : Int)) (fun nx_15 x_14 h => ?_) h
    unfold m15_L2 at h
    refine AWP.seq ?_
    refine AWP.seq ?_
    refine AWP.rg (.cons (.move (l1 rfl) (.t rfl))<| .cons (.fieldP (l1 rfl) (.t rfl) fld25_1)<| .cons (.loadP (l1 rfl) (.t rfl) one23 rfl rfl rfl)<| .cons (.lenRd (l1 rfl) (.t rfl) Try.underlying23)<| .cons (.lss (l1 rfl) (.t rfl) (.t rfl))<| ARun.nil _ _ _) ?_
    refine AWP.vc (s' := ⟨[(1,.ptr 1 0),(3,iW (a0.Pq.length : Int)),(6,iW x_14),(57,bW (decide (x_14 < (a0.Bq.length : Int))))],[(1,⟨25,false,(pW β1 β2 a0)⟩)]⟩) (VC.sub (.of rfl) (.of rfl)) ?_
    refine AWP.cond (.t rfl) (fun hc => ?_) (fun hc => ?_)
    ·have h := iteT hc h
     refine AWP.skip ?_
     refine AWP.seq ?_
     refine AWP.block ?_
     refine AWP.seq ?_
     obtain ⟨y_16,hy_16,h⟩ := bindS h
     refine AWP.rg (.cons (.fieldP (l1 rfl) (.t rfl) fld25_1)<| .cons (.loadP (l1 rfl) (.t rfl) one23 rfl rfl rfl)<| .cons (.move (l1 rfl) (.t rfl))<| .cons (.indexRd (enc := e93) (l1 rfl) (.t rfl) (.t rfl) Try.underlying23 sz93 encR93_len rfl hy_16)<| .cons (.loadRA (out := [iW y_16.f0,iW y_16.f1]) (l1 rfl) (.t rfl) agg93 (Nat.le_of_eq (Eq.symm (encR93_len _))) rfl)<| .cons (.alloc (t := 3) (k := ⟨93,false,[iW (0 : Int),iW (0 : Int)]⟩) (l1 rfl) (nm rfl) zero93 rfl rfl)<| .cons (.storePA (.t rfl) (.t rfl) sz93 rfl rfl (le1 rfl) (one_lit rfl) (by intro h; cases h) rfl)<| ARun.nil _ _ _) ?_
     refine AWP.vc (s' := ⟨[(1,.ptr 1 0),(3,iW (a0.Pq.length : Int)),(6,iW x_14),(7,.ptr 3 0)],[(3,⟨93,false,[iW y_16.f0,iW y_16.f1]⟩),(1,⟨25,false,(pW β1 β2 a0)⟩)]⟩) (VC.sub (.of rfl) (.of rfl)) ?_
     refine AWP.seq ?_
     obtain ⟨t91_17,ht91_17,h⟩ := letS h
     refine AWP.rg (.cons (.idxP (l1 rfl) (.t rfl) (.const _ _ _) Try.underlying93 sz3 (by decide) rfl)<| .cons (.loadP (l1 rfl) (.t rfl) one3 rfl rfl rfl)<| .cons (.lss (l1 rfl) (.t rfl) (.const _ _ _))<| .cons (.move (l1 rfl) (.t rfl))<| .guard (j := 3) (dj := 68) rfl (l1 rfl) rfl (l1 rfl) (fun hg => .idxP (l1 rfl) (.t rfl) (.const _ _ _) Try.underlying93 sz3 (by decide) rfl)<| .guard (j := 3) (dj := 68) rfl (l1 rfl) rfl (l1 rfl) (fun hg => .loadP (l1 rfl) (.gd hg (.t rfl)) one3 rfl rfl rfl)<| .guard (j := 3) (dj := 68) rfl (l1 rfl) rfl (l1 rfl) (fun hg => .move (l1 rfl) (.t rfl))<| .guard (j := 3) (dj := 68) rfl (l1 rfl) rfl (l1 rfl) (fun hg => .geq (l1 rfl) (.gd hg (.t rfl)) (.gd hg (.t rfl)))<| .cons (.pickOr (l1 rfl) (.t rfl) (.const _ _ _) (.t rfl))<| .cons (.move (l1 rfl) (.t rfl))<| .guard (j := 9) (dj := 74) rfl (l1 rfl) rfl (l1 rfl) (fun hg => .idxP (l1 rfl) (.t rfl) (.const _ _ _) Try.underlying93 sz3 (by decide) rfl)<| .guard (j := 9) (dj := 74) rfl (l1 rfl) rfl (l1 rfl) (fun hg => .loadP (l1 rfl) (.gd hg (.t rfl)) one3 rfl rfl rfl)<| .guard (j := 9) (dj := 74) rfl (l1 rfl) rfl (l1 rfl) (fun hg => .lss (l1 rfl) (.gd hg (.t rfl)) (.const _ _ _))<| .cons (.pickOr (l1 rfl) (.t rfl) (.const _ _ _) (.t rfl))<| .cons (.move (l1 rfl) (.t rfl))<| .guard (j := 14) (dj := 79) rfl (l1 rfl) rfl (l1 rfl) (fun hg => .idxP (l1 rfl) (.t rfl) (.const _ _ _) Try.underlying93 sz3 (by decide) rfl)<| .guard (j := 14) (dj := 79) rfl (l1 rfl) rfl (l1 rfl) (fun hg => .loadP (l1 rfl) (.gd hg (.t rfl)) one3 rfl rfl rfl)<| .guard (j := 14) (dj := 79) rfl (l1 rfl) rfl (l1 rfl) (fun hg => .move (l1 rfl) (.t rfl))<| .guard (j := 14) (dj := 79) rfl (l1 rfl) rfl (l1 rfl) (fun hg => .geq (l1 rfl) (.gd hg (.t rfl)) (.gd hg (.t rfl)))<| .cons (.pickOr (l1 rfl) (.t rfl) (.const _ _ _) (.t rfl))<| .cons (.move (l1 rfl) (.t rfl))<| .guard (j := 20) (dj := 85) rfl (l1 rfl) rfl (l1 rfl) (fun hg => .idxP (l1 rfl) (.t rfl) (.const _ _ _) Try.underlying93 sz3 (by decide) rfl)<| .guard (j := 20) (dj := 85) rfl (l1 rfl) rfl (l1 rfl) (fun hg => .loadP (l1 rfl) (.gd hg (.t rfl)) one3 rfl rfl rfl)<| .guard (j := 20) (dj := 85) rfl (l1 rfl) rfl (l1 rfl) (fun hg => .idxP (l1 rfl) (.t rfl) (.const _ _ _) Try.underlying93 sz3 (by decide) rfl)<| .guard (j := 20) (dj := 85) rfl (l1 rfl) rfl (l1 rfl) (fun hg => .loadP (l1 rfl) (.gd hg (.t rfl)) one3 rfl rfl rfl)<| .guard (j := 20) (dj := 85) rfl (l1 rfl) rfl (l1 rfl) (fun hg => .eql (l1 rfl) (.gd hg (.t rfl)) (.gd hg (.t rfl)))<| .cons (.pickOr (l1 rfl) (.t rfl) (.const _ _ _) (.t rfl))<| ARun.nil _ _ _) ?_
     refine AWP.vc (s' := ⟨[(1,.ptr 1 0),(3,iW (a0.Pq.length : Int)),(6,iW x_14),(91,bW t91_17)],[(1,⟨25,false,(pW β1 β2 a0)⟩)]⟩) (by subst ht91_17; exact VC.sub (.of rfl) (.of rfl)) ?_
     refine AWP.cond (.t rfl) (fun hc => ?_) (fun hc => ?_)
     ·have h := iteT hc h
      refine AWP.seq ?_
      refine AWP.rg (.cons (.assign (l1 rfl) (.const _ _ _))<| ARun.nil _ _ _) ?_
      refine AWP.ret ?_
      obtain rfl := Option.some.inj h
      refine retJ (Res.vc (s' := ⟨[(2,bW false)],[]⟩) (VC.sub (.of rfl) (.n _)) ?_)
      refine Res.drop (H := []) rfl ?_
      exact Res.of rfl (.cons (.tmp rfl) (.nil)) rfl rfl
     ·have h := iteF hc h
      refine AWP.skip ?_
      obtain ⟨t6_18,ht6_18,h⟩ := letS h
      refine AWP.rg (.cons (.move (l1 rfl) (.t rfl))<| .cons (.add (l1 rfl) (.t rfl) (.const _ _ _))<| .cons (.assign (l1 rfl) (.t rfl))<| ARun.nil _ _ _) ?_
      exact endJ t6_18 h (by subst ht6_18; exact VC.sub (.of rfl) (.of rfl))
    ·have h := iteF hc h
     refine AWP.exit ?_
     exact endJ () h (VC.sub (.of rfl) (.of rfl))
  ·refine AWP.vc (s' := ⟨[(1,.ptr 1 0),(3,iW (a0.Pq.length : Int)),(4,iW (0 : Int))],[(1,⟨25,false,(pW β1 β2 a0)⟩)]⟩) (VC.sub (.of rfl) (.of rfl)) ?_
   refine AWP.loopM (S := fun x_4 : Int => ⟨[(1,.ptr 1 0),(3,iW (a0.Pq.length : Int)),(4,iW x_4)],[(1,⟨25,false,(pW β1 β2 a0)⟩)]⟩) (x := (0 : Int)) (fun nx_5 x_4 h => ?_) h
   unfold m15_L1 at h
   refine AWP.seq ?_
   refine AWP.seq ?_
   refine AWP.rg (.cons (.move (l1 rfl) (.t rfl))<| .cons (.move (l1 rfl) (.t rfl))<| .cons (.lss (l1 rfl) (.t rfl) (.t rfl))<| ARun.nil _ _ _) ?_
   refine AWP.vc (s' := ⟨[(1,.ptr 1 0),(3,iW (a0.Pq.length : Int)),(4,iW x_4),(27,bW (decide (x_4 < (a0.Pq.length : Int))))],[(1,⟨25,false,(pW β1 β2 a0)⟩)]⟩) (VC.sub (.of rfl) (.of rfl)) ?_
   refine AWP.cond (.t rfl) (fun hc => ?_) (fun hc => ?_)
   ·have h := iteT hc h
    refine AWP.skip ?_
    refine AWP.seq ?_
    refine AWP.block ?_
    refine AWP.seq ?_
    obtain ⟨y_6,hy_6,h⟩ := bindS h
    refine AWP.rg (.cons (.fieldP (l1 rfl) (.t rfl) fld25_0)<| .cons (.loadP (l1 rfl) (.t rfl) one22 rfl rfl rfl)<| .cons (.move (l1 rfl) (.t rfl))<| .cons (.indexRd (enc := e45) (l1 rfl) (.t rfl) (.t rfl) Try.underlying22 sz46 encR45_len rfl hy_6)<| .cons (.loadRA (out := [iW y_6.X,iW y_6.Y]) (l1 rfl) (.t rfl) agg46 (Nat.le_of_eq (Eq.symm (encR45_len _))) rfl)<| .cons (.alloc (t := 2) (k := ⟨46,false,[iW (0 : Int),iW (0 : Int)]⟩) (l1 rfl) (nm rfl) zero46 rfl rfl)<| .cons (.storePA (.t rfl) (.t rfl) sz46 rfl rfl (le1 rfl) (one_lit rfl) (by intro h; cases h) rfl)<| ARun.nil _ _ _) ?_
    refine AWP.vc (s' := ⟨[(1,.ptr 1 0),(3,iW (a0.Pq.length : Int)),(4,iW x_4),(5,.ptr 2 0)],[(2,⟨46,false,[iW y_6.X,iW y_6.Y]⟩),(1,⟨25,false,(pW β1 β2 a0)⟩)]⟩) (VC.sub (.of rfl) (.of rfl)) ?_
    refine AWP.seq ?_
    refine AWP.rg (.cons (.fieldP (l1 rfl) (.t rfl) fld46_0)<| .cons (.loadP (l1 rfl) (.t rfl) one3 rfl rfl rfl)<| .cons (.lss (l1 rfl) (.t rfl) (.const _ _ _))<| .cons (.move (l1 rfl) (.t rfl))<| .guard (j := 3) (dj := 38) rfl (l1 rfl) rfl (l1 rfl) (fun hg => .fieldP (l1 rfl) (.t rfl) fld46_0)<| .guard (j := 3) (dj := 38) rfl (l1 rfl) rfl (l1 rfl) (fun hg => .loadP (l1 rfl) (.gd hg (.t rfl)) one3 rfl rfl rfl)<| .guard (j := 3) (dj := 38) rfl (l1 rfl) rfl (l1 rfl) (fun hg => .gtr (l1 rfl) (.gd hg (.t rfl)) (.const _ _ _))<| .cons (.pickOr (l1 rfl) (.t rfl) (.const _ _ _) (.t rfl))<| .cons (.move (l1 rfl) (.t rfl))<| .guard (j := 8) (dj := 43) rfl (l1 rfl) rfl (l1 rfl) (fun hg => .fieldP (l1 rfl) (.t rfl) fld46_1)<| .guard (j := 8) (dj := 43) rfl (l1 rfl) rfl (l1 rfl) (fun hg => .loadP (l1 rfl) (.gd hg (.t rfl)) one3 rfl rfl rfl)<| .guard (j := 8) (dj := 43) rfl (l1 rfl) rfl (l1 rfl) (fun hg => .lss (l1 rfl) (.gd hg (.t rfl)) (.const _ _ _))<| .cons (.pickOr (l1 rfl) (.t rfl) (.const _ _ _) (.t rfl))<| .cons (.move (l1 rfl) (.t rfl))<| .guard (j := 13) (dj := 48) rfl (l1 rfl) rfl (l1 rfl) (fun hg => .fieldP (l1 rfl) (.t rfl) fld46_1)<| .guard (j := 13) (dj := 48) rfl (l1 rfl) rfl (l1 rfl) (fun hg => .loadP (l1 rfl) (.gd hg (.t rfl)) one3 rfl rfl rfl)<| .guard (j := 13) (dj := 48) rfl (l1 rfl) rfl (l1 rfl) (fun hg => .gtr (l1 rfl) (.gd hg (.t rfl)) (.const _ _ _))<| .cons (.pickOr (l1 rfl) (.t rfl) (.const _ _ _) (.t rfl))<| ARun.nil _ _ _) ?_
    refine AWP.vc (s' := ⟨[(1,.ptr 1 0),(3,iW (a0.Pq.length : Int)),(4,iW x_4),(52,bW ((((decide (y_6.X < (-8000 : Int))) || (decide ((8000 : Int) < y_6.X))) || (decide (y_6.Y < (-8000 : Int)))) || (decide ((8000 : Int) < y_6.Y))))],[(1,⟨25,false,(pW β1 β2 a0)⟩)]⟩) (VC.sub (.of rfl) (.of rfl)) ?_
    refine AWP.cond (.t rfl) (fun hc => ?_) (fun hc => ?_)
    ·have h := iteT hc h
     refine AWP.seq ?_
     refine AWP.rg (.cons (.assign (l1 rfl) (.const _ _ _))<| ARun.nil _ _ _) ?_
     refine AWP.ret ?_
     obtain rfl := Option.some.inj h
     refine retJ (Res.vc (s' := ⟨[(2,bW false)],[]⟩) (VC.sub (.of rfl) (.n _)) ?_)
     refine Res.drop (H := []) rfl ?_
     exact Res.of rfl (.cons (.tmp rfl) (.nil)) rfl rfl
    ·have h := iteF hc h
     refine AWP.skip ?_
     obtain ⟨t4_7,ht4_7,h⟩ := letS h
     refine AWP.rg (.cons (.move (l1 rfl) (.t rfl))<| .cons (.add (l1 rfl) (.t rfl) (.const _ _ _))<| .cons (.assign (l1 rfl) (.t rfl))<| ARun.nil _ _ _) ?_
     exact endJ t4_7 h (by subst ht4_7; exact VC.sub (.of rfl) (.of rfl))
   ·have h := iteF hc h
    refine AWP.exit ?_
    exact endJ () h (VC.sub (.of rfl) (.of rfl))
theorem c64 {β1 : Bool} {β2 : Bool} {β3 : Bool} (n : Nat) (a0 : R52) {r : Bool} (h : m64 n a0 = some r) : Spec Try.prog 64 [] [.agg (gW β1 β2 β3 a0.Gq a0.Path a0.Ln)] [] (bW r) [] := by
 refine Spec.of (fn := Try.f64) Try.func64 Try.ntmps64 rfl rfl (le1 rfl) (fun w0 Zs Zb T0 ι0 => ?_)
 unfold m64 at h
 refine AWP.seq ?_
 refine AWP.rg (.cons (.box (t := 1) (n := 4) (l1 rfl) (nm rfl) (.t rfl) (by first | exact ⟨rfl,rfl⟩ | rfl) rfl)<| .cons (.assign (l1 rfl) (.const _ _ _))<| ARun.nil _ _ _) ?_
 refine AWP.vc (s' := ⟨[(1,.ptr 1 0)],[(1,⟨53,false,(gW β1 β2 β3 a0.Gq a0.Path a0.Ln)⟩)]⟩) (VC.sub (.of rfl) (.of rfl)) ?_
 refine AWP.seq ?_
 refine AWP.seq ?_
 obtain ⟨y_1,hy_1,h⟩ := bindS h
 obtain ⟨y_2,hy_2,h⟩ := bindS h
 obtain ⟨t40_3,ht40_3,h⟩ := letS h
 refine AWP.rg (.cons (.fieldP (l1 rfl) (.t rfl) fld53_0)<| .cons (.loadPA (l1 rfl) (.t rfl) agg25 rfl rfl rfl rfl)<| .cons (.call0 (bw := false) (l1 rfl) (c15 (β1 := β1) (β2 := β2) n (R24.mk a0.Gq.Pq a0.Gq.Bq) hy_1) (.cons (.t rfl) (.ren rfl) (.nil)) rfl)<| .cons (.not (l1 rfl) (.t rfl))<| .cons (.move (l1 rfl) (.t rfl))<| .guard (j := 4) (dj := 8) rfl (l1 rfl) rfl (l1 rfl) (fun hg => .fieldP (l1 rfl) (.t rfl) fld53_1)<| .guard (j := 4) (dj := 8) rfl (l1 rfl) rfl (l1 rfl) (fun hg => .loadP (l1 rfl) (.gd hg (.t rfl)) one28 rfl rfl rfl)<| .guard (j := 4) (dj := 8) rfl (l1 rfl) rfl (l1 rfl) (fun hg => .lenRd (l1 rfl) (.gd hg (.t rfl)) Try.underlying28)<| .guard (j := 4) (dj := 8) rfl (l1 rfl) rfl (l1 rfl) (fun hg => .eql (l1 rfl) (.gd hg (.t rfl)) (.const _ _ _))<| .cons (.pickOr (l1 rfl) (.t rfl) (.const _ _ _) (.t rfl))<| .cons (.move (l1 rfl) (.t rfl))<| .guard (j := 10) (dj := 14) rfl (l1 rfl) rfl (l1 rfl) (fun hg => .fieldP (l1 rfl) (.t rfl) fld53_1)<| .guard (j := 10) (dj := 14) rfl (l1 rfl) rfl (l1 rfl) (fun hg => .loadP (l1 rfl) (.gd hg (.t rfl)) one28 rfl rfl rfl)<| .guard (j := 10) (dj := 14) rfl (l1 rfl) rfl (l1 rfl) (fun hg => .lenRd (l1 rfl) (.gd hg (.t rfl)) Try.underlying28)<| .guard (j := 10) (dj := 14) rfl (l1 rfl) rfl (l1 rfl) (fun hg => .fieldP (l1 rfl) (.t rfl) fld53_0)<| .guard (j := 10) (dj := 14) rfl (l1 rfl) rfl (l1 rfl) (fun hg => .fieldP (l1 rfl) (.gd hg (.t rfl)) fld25_0)<| .guard (j := 10) (dj := 14) rfl (l1 rfl) rfl (l1 rfl) (fun hg => .loadP (l1 rfl) (.gd hg (.t rfl)) one22 rfl rfl rfl)<| .guard (j := 10) (dj := 14) rfl (l1 rfl) rfl (l1 rfl) (fun hg => .lenRd (l1 rfl) (.gd hg (.t rfl)) Try.underlying22)<| .guard (j := 10) (dj := 14) rfl (l1 rfl) rfl (l1 rfl) (fun hg => .gtr (l1 rfl) (.gd hg (.t rfl)) (.gd hg (.t rfl)))<| .cons (.pickOr (l1 rfl) (.t rfl) (.const _ _ _) (.t rfl))<| .cons (.move (l1 rfl) (.t rfl))<| .guard (j := 20) (dj := 24) rfl (l1 rfl) rfl (l1 rfl) (fun hg => .fieldP (l1 rfl) (.t rfl) fld53_1)<| .guard (j := 20) (dj := 24) rfl (l1 rfl) rfl (l1 rfl) (fun hg => .loadP (l1 rfl) (.gd hg (.t rfl)) one28 rfl rfl rfl)<| .guard (j := 20) (dj := 24) rfl (l1 rfl) rfl (l1 rfl) (fun hg => .indexRd (enc := eW) (l1 rfl) (.gd hg (.t rfl)) (.const _ _ _) Try.underlying28 sz3 (encI_len .i64) rfl (gdB hy_2 hg))<| .guard (j := 20) (dj := 24) rfl (l1 rfl) rfl (l1 rfl) (fun hg => .loadR (v := iW y_2) (l1 rfl) (.gd hg (.t rfl)) one3 rfl)<| .guard (j := 20) (dj := 24) rfl (l1 rfl) rfl (l1 rfl) (fun hg => .neq (l1 rfl) (.gd hg (.t rfl)) (.const _ _ _))<| .cons (.pickOr (l1 rfl) (.t rfl) (.const _ _ _) (.t rfl))<| .cons (.move (l1 rfl) (.t rfl))<| .guard (j := 27) (dj := 31) rfl (l1 rfl) rfl (l1 rfl) (fun hg => .fieldP (l1 rfl) (.t rfl) fld53_2)<| .guard (j := 27) (dj := 31) rfl (l1 rfl) rfl (l1 rfl) (fun hg => .loadP (l1 rfl) (.gd hg (.t rfl)) one3 rfl rfl rfl)<| .guard (j := 27) (dj := 31) rfl (l1 rfl) rfl (l1 rfl) (fun hg => .lss (l1 rfl) (.gd hg (.t rfl)) (.const _ _ _))<| .cons (.pickOr (l1 rfl) (.t rfl) (.const _ _ _) (.t rfl))<| .cons (.move (l1 rfl) (.t rfl))<| .guard (j := 32) (dj := 36) rfl (l1 rfl) rfl (l1 rfl) (fun hg => .fieldP (l1 rfl) (.t rfl) fld53_2)<| .guard (j := 32) (dj := 36) rfl (l1 rfl) rfl (l1 rfl) (fun hg => .loadP (l1 rfl) (.gd hg (.t rfl)) one3 rfl rfl rfl)<| .guard (j := 32) (dj := 36) rfl (l1 rfl) rfl (l1 rfl) (fun hg => .gtr (l1 rfl) (.gd hg (.t rfl)) (.const _ _ _))<| .cons (.pickOr (l1 rfl) (.t rfl) (.const _ _ _) (.t rfl))<| ARun.nil _ _ _) ?_
 refine AWP.vc (s' := ⟨[(1,.ptr 1 0),(40,bW t40_3)],[(1,⟨53,false,(gW β1 β2 β3 a0.Gq a0.Path a0.Ln)⟩)]⟩) (by subst ht40_3; exact VC.sub (.of rfl) (.of rfl)) ?_
 refine AWP.cond (.t rfl) (fun hc => ?_) (fun hc => ?_)
 ·have h := iteT hc h
  refine AWP.seq ?_
  refine AWP.rg (.cons (.assign (l1 rfl) (.const _ _ _))<| ARun.nil _ _ _) ?_
  refine AWP.ret ?_
  obtain rfl := Option.some.inj h
  refine retJ (Res.vc (s' := ⟨[(2,bW false)],[]⟩) (VC.sub (.of rfl) (.n _)) ?_)
  refine Res.drop (H := []) rfl ?_
  exact Res.of rfl (.cons (.tmp rfl) (.nil)) rfl rfl
 ·have h := iteF hc h
  refine AWP.skip ?_
  refine AWP.seq ?_
  refine AWP.seq ?_
  refine AWP.rg (.cons (.assign (l1 rfl) (.const _ _ _))<| ARun.nil _ _ _) ?_
  refine AWP.vc (s' := ⟨[(1,.ptr 1 0),(3,iW (1 : Int))],[(1,⟨53,false,(gW β1 β2 β3 a0.Gq a0.Path a0.Ln)⟩)]⟩) (VC.sub (.of rfl) (.of rfl)) ?_
  refine AWP.joinB' (S := fun p_17 : Unit => ⟨[],[]⟩) h (fun p_17 h => ?_) (fun k_18 h => ?_)
  ·refine AWP.seq ?_
   refine AWP.rg (.cons (.assign (l1 rfl) (.const _ _ _))<| ARun.nil _ _ _) ?_
   refine AWP.ret ?_
   obtain rfl := Option.some.inj h
   refine retJ (Res.vc (s' := ⟨[(2,bW true)],[]⟩) (VC.sub (.of rfl) (.n _)) ?_)
   refine Res.drop (H := []) rfl ?_
   exact Res.of rfl (.cons (.tmp rfl) (.nil)) rfl rfl
  ·refine AWP.vc (s' := ⟨[(1,.ptr 1 0),(3,iW (1 : Int))],[(1,⟨53,false,(gW β1 β2 β3 a0.Gq a0.Path a0.Ln)⟩)]⟩) (VC.sub (.of rfl) (.of rfl)) ?_
   refine AWP.loopM (S := fun x_10 : Int => ⟨[(1,.ptr 1 0),(3,iW x_10)],[(1,⟨53,false,(gW β1 β2 β3 a0.Gq a0.Path a0.Ln)⟩)]⟩) (x := (1 : Int)) (fun nx_11 x_10 h => ?_) h
   unfold m64_L1 at h
   refine AWP.seq ?_
   refine AWP.seq ?_
   refine AWP.rg (.cons (.move (l1 rfl) (.t rfl))<| .cons (.fieldP (l1 rfl) (.t rfl) fld53_1)<| .cons (.loadP (l1 rfl) (.t rfl) one28 rfl rfl rfl)<| .cons (.lenRd (l1 rfl) (.t rfl) Try.underlying28)<| .cons (.lss (l1 rfl) (.t rfl) (.t rfl))<| ARun.nil _ _ _) ?_
   refine AWP.vc (s' := ⟨[(1,.ptr 1 0),(3,iW x_10),(45,bW (decide (x_10 < (a0.Path.length : Int))))],[(1,⟨53,false,(gW β1 β2 β3 a0.Gq a0.Path a0.Ln)⟩)]⟩) (VC.sub (.of rfl) (.of rfl)) ?_
   refine AWP.cond (.t rfl) (fun hc => ?_) (fun hc => ?_)
   ·have h := iteT hc h
    refine AWP.skip ?_
    refine AWP.seq ?_
    refine AWP.block ?_
    refine AWP.seq ?_
    obtain ⟨s_12,hs_12,h⟩ := bindS h
    obtain ⟨y_13,hy_13,h⟩ := bindS h
    obtain ⟨y_14,hy_14,h⟩ := bindS h
    obtain ⟨y_15,hy_15,h⟩ := bindS h
    refine AWP.draw (s' := ⟨[(1,.ptr 1 0),(3,iW x_10),(61,bW (!y_15))],[(1,⟨53,false,(gW β1 β2 β3 a0.Gq a0.Path a0.Ln)⟩)]⟩) mixed [⟨1,.ptr 1 0,none,[]⟩,⟨3,iW x_10,none,[]⟩,⟨45,bW (decide (x_10 < (a0.Path.length : Int))),none,[]⟩,⟨48,.ptr 1 (0 + 0),some 0,[]⟩,⟨49,.agg (pW β1 β2 a0.Gq),some 1,[]⟩,⟨50,.ptr 1 (0 + 2),some 2,[]⟩,⟨51,rW β3 a0.Path eW,some 3,[]⟩,⟨52,iW x_10,some 4,[]⟩,⟨53,rW β3 s_12 eW,some 5,[]⟩,⟨54,rW false y_13 eW,some 6,[]⟩,⟨55,.ptr 1 (0 + 2),some 7,[]⟩,⟨56,rW β3 a0.Path eW,some 8,[]⟩,⟨57,iW x_10,some 9,[]⟩,⟨58,.rptr β3 [iW y_14],some 10,[]⟩,⟨59,iW y_14,some 11,[]⟩,⟨60,bW y_15,some 12,[]⟩,⟨61,bW (!y_15),some 13,[]⟩] [⟨[0],0,0,some (48,.ptr 1 (0 + 0)),[]⟩,⟨[3],0,0,some (49,.agg (pW β1 β2 a0.Gq)),[]⟩,⟨[0],0,0,some (50,.ptr 1 (0 + 2)),[]⟩,⟨[5],0,0,some (51,rW β3 a0.Path eW),[]⟩,⟨[1],0,0,some (52,iW x_10),[]⟩,⟨[6,7],0,0,some (53,rW β3 s_12 eW),[]⟩,⟨[4,8],0,0,some (54,rW false y_13 eW),[]⟩,⟨[0],0,0,some (55,.ptr 1 (0 + 2)),[]⟩,⟨[10],0,0,some (56,rW β3 a0.Path eW),[]⟩,⟨[1],0,0,some (57,iW x_10),[]⟩,⟨[11,12],0,0,some (58,.rptr β3 [iW y_14]),[]⟩,⟨[13],0,0,some (59,iW y_14),[]⟩,⟨[9,14],0,0,some (60,bW y_15),[]⟩,⟨[15],0,0,some (61,bW (!y_15)),[]⟩] [] [[(1,⟨53,false,(gW β1 β2 β3 a0.Gq a0.Path a0.Ln)⟩)]] [[],[0],[],[2],[],[2,3,4],[0,1,2,3,4,5],[],[7],[],[7,8,9],[7,8,9,10],[0,1,2,3,4,5,6,7,8,9,10,11],[0,1,2,3,4,5,6,7,8,9,10,11,12]] (by kernel_rfl) (by kernel_rfl) (BornL.ok (.o<| .o<| .o<| .b rfl rfl<| .b rfl rfl<| .b rfl rfl<| .b rfl rfl<| .b rfl rfl<| .b rfl rfl<| .b rfl rfl<| .b rfl rfl<| .b rfl rfl<| .b rfl rfl<| .b rfl rfl<| .b rfl rfl<| .b rfl rfl<| .b rfl rfl<| .n)) (BaseL.ok (.o rfl<| .o rfl<| .o rfl<| .b<| .b<| .b<| .b<| .b<| .b<| .b<| .b<| .b<| .b<| .b<| .b<| .b<| .b<| .n)) rfl (by decide) (allLt rfl) (.read rfl (.c (.put (fun E hE => .fieldP (l1 rfl) (.tmp (hE.at (k := 0) rfl)) fld53_0)) .n)<| .read rfl (.c (.put (fun E hE => .loadPA (l1 rfl) (.tmp (hE.at (k := 0) rfl)) agg25 rfl rfl rfl rfl)) .n)<| .read rfl (.c (.put (fun E hE => .fieldP (l1 rfl) (.tmp (hE.at (k := 0) rfl)) fld53_1)) .n)<| .read rfl (.c (.put (fun E hE => .loadP (l1 rfl) (.tmp (hE.at (k := 0) rfl)) one28 rfl rfl rfl)) .n)<| .pure rfl (fun H => .put (fun E hE => .move (l1 rfl) (.tmp (hE.at (k := 0) rfl))))<| .pure rfl (fun H => .put (fun E hE => .slRd (enc := eW) (l1 rfl) (.tmp (hE.at (k := 0) rfl)) Try.underlying28 sz3 (encI_len .i64) rfl (.none _ _ _) (.some (.tmp (hE.at (k := 1) rfl))) hs_12))<| .pure rfl (fun H => .put (fun E hE => .call0 (bw := false) (l1 rfl) (c45 (β1 := β1) (β2 := β2) (β3 := β3) n (R24.mk a0.Gq.Pq a0.Gq.Bq) s_12 hy_13) (.cons (.tmp (hE.at (k := 0) rfl)) (.ren rfl) (.cons (.tmp (hE.at (k := 1) rfl)) (.ren rfl) (.nil))) rfl))<| .read rfl (.c (.put (fun E hE => .fieldP (l1 rfl) (.tmp (hE.at (k := 0) rfl)) fld53_1)) .n)<| .read rfl (.c (.put (fun E hE => .loadP (l1 rfl) (.tmp (hE.at (k := 0) rfl)) one28 rfl rfl rfl)) .n)<| .pure rfl (fun H => .put (fun E hE => .move (l1 rfl) (.tmp (hE.at (k := 0) rfl))))<| .pure rfl (fun H => .put (fun E hE => .indexRd (enc := eW) (l1 rfl) (.tmp (hE.at (k := 0) rfl)) (.tmp (hE.at (k := 1) rfl)) Try.underlying28 sz3 (encI_len .i64) rfl hy_14))<| .pure rfl (fun H => .put (fun E hE => .loadR (v := iW y_14) (l1 rfl) (.tmp (hE.at (k := 0) rfl)) one3 rfl))<| .pure rfl (fun H => .put (fun E hE => .call0 (bw := false) (l1 rfl) (c73 (β1 := false) n y_13 y_14 hy_15) (.cons (.tmp (hE.at (k := 0) rfl)) (.ren rfl) (.cons (.tmp (hE.at (k := 1) rfl)) (.ren rfl) (.nil))) rfl))<| .pure rfl (fun H => .put (fun E hE => .not (l1 rfl) (.tmp (hE.at (k := 0) rfl))))<| .nil _) (fun E hE => .c (DInv.at hE (k := 0) rfl rfl rfl)<| .c (DInv.at hE (k := 1) rfl rfl rfl)<| .c (DInv.at hE (k := 16) rfl rfl rfl)<| .n _) rfl ?_
    refine AWP.vc (s' := ⟨[(1,.ptr 1 0),(3,iW x_10),(61,bW (!y_15))],[(1,⟨53,false,(gW β1 β2 β3 a0.Gq a0.Path a0.Ln)⟩)]⟩) (VC.sub (.of rfl) (.of rfl)) ?_
    refine AWP.cond (.t rfl) (fun hc => ?_) (fun hc => ?_)
    ·have h := iteT hc h
     refine AWP.seq ?_
     refine AWP.rg (.cons (.assign (l1 rfl) (.const _ _ _))<| ARun.nil _ _ _) ?_
     refine AWP.ret ?_
     obtain rfl := Option.some.inj h
     refine retJ (Res.vc (s' := ⟨[(2,bW false)],[]⟩) (VC.sub (.of rfl) (.n _)) ?_)
     refine Res.drop (H := []) rfl ?_
     exact Res.of rfl (.cons (.tmp rfl) (.nil)) rfl rfl
    ·have h := iteF hc h
     refine AWP.skip ?_
     obtain ⟨t3_16,ht3_16,h⟩ := letS h
     refine AWP.rg (.cons (.move (l1 rfl) (.t rfl))<| .cons (.add (l1 rfl) (.t rfl) (.const _ _ _))<| .cons (.assign (l1 rfl) (.t rfl))<| ARun.nil _ _ _) ?_
     exact endJ t3_16 h (by subst ht3_16; exact VC.sub (.of rfl) (.of rfl))
   ·have h := iteF hc h
    refine AWP.exit ?_
    exact endJ () h (VC.sub (.n _) (.n _))
theorem c26 {β3 : Bool} (n : Nat) (a0 : R52) (a1 : Int) {r : ((List R52) × Bool)} (h : m26 n a0 a1 = some r) : Spec Try.prog 26 [] [.agg (gW false false β3 a0.Gq a0.Path a0.Ln),iW a1] [] (.tup [rW false r.1 encR52,bW r.2]) [] := by
 refine Spec.of (fn := Try.f26) Try.func26 Try.ntmps26 rfl rfl (le1 rfl) (fun w0 Zs Zb T0 ι0 => ?_)
 unfold m26 at h
 refine AWP.seq ?_
 refine AWP.rg (.cons (.box (t := 1) (n := 4) (l1 rfl) (nm rfl) (.t rfl) (by first | exact ⟨rfl,rfl⟩ | rfl) rfl)<| .cons (.assign (l1 rfl) (.const _ _ _))<| .cons (.assign (l1 rfl) (.const _ _ _))<| ARun.nil _ _ _) ?_
 refine AWP.vc (s' := ⟨[(1,iW a1),(2,.ptr 1 0)],[(1,⟨53,false,(gW false false β3 a0.Gq a0.Path a0.Ln)⟩)]⟩) (VC.sub (.of rfl) (.of rfl)) ?_
 refine AWP.seq ?_
 refine AWP.seq ?_
 obtain ⟨y_1,hy_1,h⟩ := bindS h
 refine AWP.rg (.cons (.loadPA (l1 rfl) (.t rfl) agg53 rfl rfl rfl rfl)<| .cons (.call0 (bw := false) (l1 rfl) (c64 (β1 := false) (β2 := false) (β3 := β3) n (R52.mk (R24.mk a0.Gq.Pq a0.Gq.Bq) a0.Path a0.Ln) hy_1) (.cons (.t rfl) (.ren rfl) (.nil)) rfl)<| .cons (.not (l1 rfl) (.t rfl))<| .cons (.move (l1 rfl) (.t rfl))<| .guard (j := 3) (dj := 12) rfl (l1 rfl) rfl (l1 rfl) (fun hg => .move (l1 rfl) (.t rfl))<| .guard (j := 3) (dj := 12) rfl (l1 rfl) rfl (l1 rfl) (fun hg => .neq (l1 rfl) (.gd hg (.t rfl)) (.const _ _ _))<| .cons (.pickOr (l1 rfl) (.t rfl) (.const _ _ _) (.t rfl))<| .cons (.move (l1 rfl) (.t rfl))<| .guard (j := 7) (dj := 16) rfl (l1 rfl) rfl (l1 rfl) (fun hg => .fieldP (l1 rfl) (.t rfl) fld53_1)<| .guard (j := 7) (dj := 16) rfl (l1 rfl) rfl (l1 rfl) (fun hg => .loadP (l1 rfl) (.gd hg (.t rfl)) one28 rfl rfl rfl)<| .guard (j := 7) (dj := 16) rfl (l1 rfl) rfl (l1 rfl) (fun hg => .lenRd (l1 rfl) (.gd hg (.t rfl)) Try.underlying28)<| .guard (j := 7) (dj := 16) rfl (l1 rfl) rfl (l1 rfl) (fun hg => .fieldP (l1 rfl) (.t rfl) fld53_0)<| .guard (j := 7) (dj := 16) rfl (l1 rfl) rfl (l1 rfl) (fun hg => .fieldP (l1 rfl) (.gd hg (.t rfl)) fld25_0)<| .guard (j := 7) (dj := 16) rfl (l1 rfl) rfl (l1 rfl) (fun hg => .loadP (l1 rfl) (.gd hg (.t rfl)) one22 rfl rfl rfl)<| .guard (j := 7) (dj := 16) rfl (l1 rfl) rfl (l1 rfl) (fun hg => .lenRd (l1 rfl) (.gd hg (.t rfl)) Try.underlying22)<| .guard (j := 7) (dj := 16) rfl (l1 rfl) rfl (l1 rfl) (fun hg => .eql (l1 rfl) (.gd hg (.t rfl)) (.gd hg (.t rfl)))<| .cons (.pickOr (l1 rfl) (.t rfl) (.const _ _ _) (.t rfl))<| ARun.nil _ _ _) ?_
 refine AWP.vc (s' := ⟨[(2,.ptr 1 0),(25,bW (((!y_1) || (!decide (a1 = (0 : Int)))) || (decide ((a0.Path.length : Int) = (a0.Gq.Pq.length : Int)))))],[(1,⟨53,false,(gW false false β3 a0.Gq a0.Path a0.Ln)⟩)]⟩) (VC.sub (.of rfl) (.of rfl)) ?_
 refine AWP.cond (.t rfl) (fun hc => ?_) (fun hc => ?_)
 ·have h := iteT hc h
  refine AWP.seq ?_
  refine AWP.rg (.cons (.assign (l1 rfl) (.const _ _ _))<| .cons (.assign (l1 rfl) (.const _ _ _))<| ARun.nil _ _ _) ?_
  refine AWP.ret ?_
  obtain rfl := Option.some.inj h
  refine retJ (Res.vc (s' := ⟨[(4,rW false ([] : List R52) encR52),(5,bW false)],[]⟩) (VC.trans (VC.nilRd (d := 4) false rfl) (VC.sub (.of rfl) (.n _))) ?_)
  refine Res.drop (H := []) rfl ?_
  exact Res.of rfl (.cons (.tmp rfl) (.cons (.tmp rfl) (.nil))) rfl rfl
 ·have h := iteF hc h
  refine AWP.skip ?_
  refine AWP.seq ?_
  refine AWP.rg (.cons (.assign (l1 rfl) (.const _ _ _))<| ARun.nil _ _ _) ?_
  refine AWP.vc (s' := ⟨[(2,.ptr 1 0),(6,.sc (.slice none 0 0))],[(1,⟨53,false,(gW false false β3 a0.Gq a0.Path a0.Ln)⟩)]⟩) (VC.sub (.of rfl) (.of rfl)) ?_
  refine AWP.seq ?_
  obtain ⟨y_2,hy_2,h⟩ := bindS h
  refine AWP.rg (.cons (.fieldP (l1 rfl) (.t rfl) fld53_0)<| .cons (.loadPA (l1 rfl) (.t rfl) agg25 rfl rfl rfl rfl)<| .cons (.fieldP (l1 rfl) (.t rfl) fld53_1)<| .cons (.loadP (l1 rfl) (.t rfl) one28 rfl rfl rfl)<| .cons (.call0 (bw := false) (l1 rfl) (c45 (β1 := false) (β2 := false) (β3 := β3) n (R24.mk a0.Gq.Pq a0.Gq.Bq) a0.Path hy_2) (.cons (.t rfl) (.ren rfl) (.cons (.t rfl) (.ren rfl) (.nil))) rfl)<| .cons (.assign (l1 rfl) (.t rfl))<| ARun.nil _ _ _) ?_
  refine AWP.vc (s' := ⟨[(2,.ptr 1 0),(6,.sc (.slice none 0 0)),(7,rW false y_2 eW)],[(1,⟨53,false,(gW false false β3 a0.Gq a0.Path a0.Ln)⟩)]⟩) (VC.sub (.of rfl) (.of rfl)) ?_
  refine AWP.seq ?_
  refine AWP.seq ?_
  refine AWP.rg (.cons (.assign (l1 rfl) (.const _ _ _))<| ARun.nil _ _ _) ?_
  refine AWP.vc (s' := ⟨[(2,.ptr 1 0),(6,.sc (.slice none 0 0)),(7,rW false y_2 eW),(8,iW (0 : Int))],[(1,⟨53,false,(gW false false β3 a0.Gq a0.Path a0.Ln)⟩)]⟩) (VC.sub (.of rfl) (.of rfl)) ?_
  refine AWP.joinB' (S := fun p_22 : (List R52) => ⟨[(6,.own 2 4 0 p_22.length)],[(2,⟨53,true,p_22.flatMap encR52⟩)]⟩) h (fun p_22 h => ?_) (fun k_23 h => ?_)
  ·refine AWP.seq ?_
   refine AWP.rg (.cons (.move (l1 rfl) (.t rfl))<| .cons (.assign (l1 rfl) (.t rfl))<| .cons (.assign (l1 rfl) (.const _ _ _))<| ARun.nil _ _ _) ?_
   refine AWP.ret ?_
   obtain rfl := Option.some.inj h
   refine retJ (Res.vc (s' := ⟨[(4,rW false p_22 encR52),(5,bW true)],[]⟩) (VC.trans (VC.frz (d := 4) (t := 2) rfl rfl encR52_len) (VC.sub (.of rfl) (.n _))) ?_)
   refine Res.drop (H := []) rfl ?_
   exact Res.of rfl (.cons (.tmp rfl) (.cons (.tmp rfl) (.nil))) rfl rfl
  ·refine AWP.vc (VC.nilOwn (d := 6) (t := 2) (sz := 4) (E := 53) rfl (nm rfl)) ?_
   refine AWP.vc (s' := ⟨[(2,.ptr 1 0),(6,.own 2 4 0 ([] : List R52).length),(7,rW false y_2 eW),(8,iW (0 : Int))],[(1,⟨53,false,(gW false false β3 a0.Gq a0.Path a0.Ln)⟩),(2,⟨53,true,([] : List R52).flatMap encR52⟩)]⟩) (VC.sub (.of rfl) (.of rfl)) ?_
   refine AWP.loopM (S := fun x_15 : Int × (List R52) => ⟨[(2,.ptr 1 0),(6,.own 2 4 0 x_15.2.length),(7,rW false y_2 eW),(8,iW x_15.1)],[(1,⟨53,false,(gW false false β3 a0.Gq a0.Path a0.Ln)⟩),(2,⟨53,true,x_15.2.flatMap encR52⟩)]⟩) (x := ((0 : Int),([] : List R52))) (fun nx_16 x_15 h => ?_) h
   unfold m26_L1 at h
   refine AWP.seq ?_
   refine AWP.seq ?_
   refine AWP.rg (.cons (.move (l1 rfl) (.t rfl))<| .cons (.move (l1 rfl) (.t rfl))<| .cons (.lenRd (l1 rfl) (.t rfl) Try.underlying28)<| .cons (.lss (l1 rfl) (.t rfl) (.t rfl))<| ARun.nil _ _ _) ?_
   refine AWP.vc (s' := ⟨[(2,.ptr 1 0),(6,.own 2 4 0 x_15.2.length),(7,rW false y_2 eW),(8,iW x_15.1),(34,bW (decide (x_15.1 < (y_2.length : Int))))],[(1,⟨53,false,(gW false false β3 a0.Gq a0.Path a0.Ln)⟩),(2,⟨53,true,x_15.2.flatMap encR52⟩)]⟩) (VC.sub (.of rfl) (.of rfl)) ?_
   refine AWP.cond (.t rfl) (fun hc => ?_) (fun hc => ?_)
   ·have h := iteT hc h
    refine AWP.skip ?_
    refine AWP.seq ?_
    refine AWP.block ?_
    obtain ⟨l3_17,hl3_17,h⟩ := bindS h
    obtain ⟨y_18,hy_18,h⟩ := bindS h
    obtain ⟨l3_19,hl3_19,h⟩ := bindS h
    obtain ⟨l2_20,hl2_20,h⟩ := bindS h
    refine AWP.draw (s' := ⟨[(2,.ptr 1 0),(6,.own 2 4 0 l2_20.length),(7,rW false y_2 eW),(8,iW x_15.1)],[(2,⟨53,true,l2_20.flatMap encR52⟩),(1,⟨53,false,(gW false false β3 a0.Gq a0.Path a0.Ln)⟩)]⟩) mixed [⟨2,.ptr 1 0,none,[]⟩,⟨6,.own 2 4 0 x_15.2.length,none,[17,18]⟩,⟨7,rW false y_2 eW,none,[]⟩,⟨8,iW x_15.1,none,[]⟩,⟨34,bW (decide (x_15.1 < (y_2.length : Int))),none,[]⟩,⟨37,.own 2 4 0 x_15.2.length,some 0,[17]⟩,⟨38,.ptr 1 (0 + 0),some 1,[]⟩,⟨39,.agg (pW false false a0.Gq),some 2,[]⟩,⟨40,.own 3 1 0 ([] : List Int).length,some 3,[6,12]⟩,⟨41,.ptr 1 (0 + 2),some 4,[]⟩,⟨42,rW β3 a0.Path eW,some 5,[]⟩,⟨43,.own 3 1 0 l3_17.length,some 6,[12]⟩,⟨44,rW false y_2 eW,some 7,[]⟩,⟨45,iW x_15.1,some 8,[]⟩,⟨46,.rptr false [iW y_18],some 9,[]⟩,⟨47,iW y_18,some 10,[]⟩,⟨48,rW false ([y_18] : List Int) eW,some 11,[]⟩,⟨49,rW false l3_19 eW,some 12,[]⟩,⟨50,.ptr 1 (0 + 3),some 13,[]⟩,⟨51,iW a0.Ln,some 14,[]⟩,⟨52,.agg [rW false a0.Gq.Pq e45,rW false a0.Gq.Bq e93,rW false l3_19 eW,iW a0.Ln],some 15,[]⟩,⟨53,rW false ([(R52.mk (R24.mk a0.Gq.Pq a0.Gq.Bq) l3_19 a0.Ln)] : List R52) encR52,some 16,[]⟩,⟨54,.own 2 4 0 l2_20.length,some 17,[]⟩,⟨6,.own 2 4 0 l2_20.length,some 18,[]⟩] [⟨[1],0,3,some (37,.own 2 4 0 x_15.2.length),[]⟩,⟨[0],0,3,some (38,.ptr 1 (0 + 0)),[]⟩,⟨[6],0,3,some (39,.agg (pW false false a0.Gq)),[]⟩,⟨[],0,0,some (40,.own 3 1 0 ([] : List Int).length),[3]⟩,⟨[0],0,1,some (41,.ptr 1 (0 + 2)),[]⟩,⟨[9],0,1,some (42,rW β3 a0.Path eW),[]⟩,⟨[8,10],1,1,some (43,.own 3 1 0 l3_17.length),[3]⟩,⟨[2],0,4,some (44,rW false y_2 eW),[]⟩,⟨[3],0,4,some (45,iW x_15.1),[]⟩,⟨[12,13],0,4,some (46,.rptr false [iW y_18]),[]⟩,⟨[14],0,4,some (47,iW y_18),[]⟩,⟨[15],0,4,some (48,rW false ([y_18] : List Int) eW),[]⟩,⟨[11,16],2,2,some (49,rW false l3_19 eW),[3]⟩,⟨[0],0,3,some (50,.ptr 1 (0 + 3)),[]⟩,⟨[18],0,3,some (51,iW a0.Ln),[]⟩,⟨[7,17,19],0,4,some (52,.agg [rW false a0.Gq.Pq e45,rW false a0.Gq.Bq e93,rW false l3_19 eW,iW a0.Ln]),[]⟩,⟨[20],0,4,some (53,rW false ([(R52.mk (R24.mk a0.Gq.Pq a0.Gq.Bq) l3_19 a0.Ln)] : List R52) encR52),[]⟩,⟨[5,21],3,3,some (54,.own 2 4 0 l2_20.length),[2]⟩,⟨[22],4,4,some (6,.own 2 4 0 l2_20.length),[]⟩] [3,6,12,17] [[(1,⟨53,false,(gW false false β3 a0.Gq a0.Path a0.Ln)⟩),(2,⟨53,true,x_15.2.flatMap encR52⟩)],[(3,⟨3,true,([] : List Int).flatMap eW⟩),(1,⟨53,false,(gW false false β3 a0.Gq a0.Path a0.Ln)⟩),(2,⟨53,true,x_15.2.flatMap encR52⟩)],[(3,⟨3,true,l3_17.flatMap eW⟩),(1,⟨53,false,(gW false false β3 a0.Gq a0.Path a0.Ln)⟩),(2,⟨53,true,x_15.2.flatMap encR52⟩)],[(1,⟨53,false,(gW false false β3 a0.Gq a0.Path a0.Ln)⟩),(2,⟨53,true,x_15.2.flatMap encR52⟩)],[(2,⟨53,true,l2_20.flatMap encR52⟩),(1,⟨53,false,(gW false false β3 a0.Gq a0.Path a0.Ln)⟩)]] [[],[],[1],[],[],[4],[3,4,5],[],[],[7,8],[7,8,9],[7,8,9,10],[3,4,5,6,7,8,9,10,11],[],[13],[1,2,3,4,5,6,7,8,9,10,11,12,13,14],[1,2,3,4,5,6,7,8,9,10,11,12,13,14,15],[0,1,2,3,4,5,6,7,8,9,10,11,12,13,14,15,16],[0,1,2,3,4,5,6,7,8,9,10,11,12,13,14,15,16,17]] (by kernel_rfl) (by kernel_rfl) (BornL.ok (.o<| .o<| .o<| .o<| .o<| .b rfl rfl<| .b rfl rfl<| .b rfl rfl<| .b rfl rfl<| .b rfl rfl<| .b rfl rfl<| .b rfl rfl<| .b rfl rfl<| .b rfl rfl<| .b rfl rfl<| .b rfl rfl<| .b rfl rfl<| .b rfl rfl<| .b rfl rfl<| .b rfl rfl<| .b rfl rfl<| .b rfl rfl<| .b rfl rfl<| .b rfl rfl<| .n)) (BaseL.ok (.o rfl<| .o rfl<| .o rfl<| .o rfl<| .o rfl<| .b<| .b<| .b<| .b<| .b<| .b<| .b<| .b<| .b<| .b<| .b<| .b<| .b<| .b<| .b<| .b<| .b<| .b<| .b<| .n)) rfl (by decide) (allLt rfl) (.read rfl (.c (.put (fun E hE => .move (l1 rfl) (.tmp (hE.at (k := 0) rfl)))) (.c (.put (fun E hE => .move (l1 rfl) (.tmp (hE.at (k := 0) rfl)))) (.c (.put (fun E hE => .move (l1 rfl) (.tmp (hE.at (k := 0) rfl)))) (.c (.put (fun E hE => .move (l1 rfl) (.tmp (hE.at (k := 0) rfl)))) (.n)))))<| .read rfl (.c (.put (fun E hE => .fieldP (l1 rfl) (.tmp (hE.at (k := 0) rfl)) fld53_0)) (.c (.put (fun E hE => .fieldP (l1 rfl) (.tmp (hE.at (k := 0) rfl)) fld53_0)) (.c (.put (fun E hE => .fieldP (l1 rfl) (.tmp (hE.at (k := 0) rfl)) fld53_0)) (.c (.put (fun E hE => .fieldP (l1 rfl) (.tmp (hE.at (k := 0) rfl)) fld53_0)) (.n)))))<| .read rfl (.c (.put (fun E hE => .loadPA (l1 rfl) (.tmp (hE.at (k := 0) rfl)) agg25 rfl rfl rfl rfl)) (.c (.put (fun E hE => .loadPA (l1 rfl) (.tmp (hE.at (k := 0) rfl)) agg25 rfl rfl rfl rfl)) (.c (.put (fun E hE => .loadPA (l1 rfl) (.tmp (hE.at (k := 0) rfl)) agg25 rfl rfl rfl rfl)) (.c (.put (fun E hE => .loadPA (l1 rfl) (.tmp (hE.at (k := 0) rfl)) agg25 rfl rfl rfl rfl)) (.n)))))<| .turn rfl rfl rfl rfl rfl (.new (fun E hE => .buildSlice (t := 3) (out := ([] : List Int).flatMap eW) (l1 rfl) (nm rfl) (.nil) Try.underlying28 zero3 el3 (by decide) (by decide) rfl (still_all (encI_still .i64) _)) rfl)<| .read rfl (.c (.put (fun E hE => .fieldP (l1 rfl) (.tmp (hE.at (k := 0) rfl)) fld53_1)) (.c (.put (fun E hE => .fieldP (l1 rfl) (.tmp (hE.at (k := 0) rfl)) fld53_1)) (.n)))<| .read rfl (.c (.put (fun E hE => .loadP (l1 rfl) (.tmp (hE.at (k := 0) rfl)) one28 rfl rfl rfl)) (.c (.put (fun E hE => .loadP (l1 rfl) (.tmp (hE.at (k := 0) rfl)) one28 rfl rfl rfl)) (.n)))<| .turn rfl rfl rfl rfl rfl (.new (fun E hE => .app (enc := eW) (l1 rfl) (nm rfl) (.tmp (hE.at (k := 0) rfl)) (Src.rd (.tmp (hE.at (k := 1) rfl)) (flatMap_length (encI_len .i64) _) (one_all (encI_one .i64) _) (.inr (scal_all (encI_scal .i64) _))) Try.underlying28 ⟨_,Try.underlying28,by intro k hk; cases hk⟩ el3 rfl (encI_len .i64) rfl rfl (by decide) hl3_17) rfl)<| .pure rfl (fun H => .put (fun E hE => .move (l1 rfl) (.tmp (hE.at (k := 0) rfl))))<| .pure rfl (fun H => .put (fun E hE => .move (l1 rfl) (.tmp (hE.at (k := 0) rfl))))<| .pure rfl (fun H => .put (fun E hE => .indexRd (enc := eW) (l1 rfl) (.tmp (hE.at (k := 0) rfl)) (.tmp (hE.at (k := 1) rfl)) Try.underlying28 sz3 (encI_len .i64) rfl hy_18))<| .pure rfl (fun H => .put (fun E hE => .loadR (v := iW y_18) (l1 rfl) (.tmp (hE.at (k := 0) rfl)) one3 rfl))<| .pure rfl (fun H => .put (fun E hE => .frzAny (fun t ht => AStep.buildSlice (t := t) (out := ([y_18] : List Int).flatMap eW) (l1 rfl) ht (.cons (.tmp (hE.at (k := 0) rfl)) (by first | exact ⟨rfl,rfl⟩ | rfl) (.nil)) Try.underlying28 zero3 el3 (by decide) (by decide) rfl (still_all (encI_still .i64) _)) rfl (encI_len .i64)))<| .turn rfl rfl rfl rfl rfl (.appFrz (fun E hE => .app (enc := eW) (l1 rfl) (nm rfl) (.tmp (hE.at (k := 0) rfl)) (Src.rd (.tmp (hE.at (k := 1) rfl)) (flatMap_length (encI_len .i64) _) (one_all (encI_one .i64) _) (.inl rfl)) Try.underlying28 ⟨_,Try.underlying28,by intro k hk; cases hk⟩ el3 rfl (encI_len .i64) rfl rfl (by decide) hl3_19) rfl (encI_len .i64))<| .read rfl (.c (.put (fun E hE => .fieldP (l1 rfl) (.tmp (hE.at (k := 0) rfl)) fld53_2)) (.c (.put (fun E hE => .fieldP (l1 rfl) (.tmp (hE.at (k := 0) rfl)) fld53_2)) (.c (.put (fun E hE => .fieldP (l1 rfl) (.tmp (hE.at (k := 0) rfl)) fld53_2)) (.c (.put (fun E hE => .fieldP (l1 rfl) (.tmp (hE.at (k := 0) rfl)) fld53_2)) (.n)))))<| .read rfl (.c (.put (fun E hE => .loadP (l1 rfl) (.tmp (hE.at (k := 0) rfl)) one3 rfl rfl rfl)) (.c (.put (fun E hE => .loadP (l1 rfl) (.tmp (hE.at (k := 0) rfl)) one3 rfl rfl rfl)) (.c (.put (fun E hE => .loadP (l1 rfl) (.tmp (hE.at (k := 0) rfl)) one3 rfl rfl rfl)) (.c (.put (fun E hE => .loadP (l1 rfl) (.tmp (hE.at (k := 0) rfl)) one3 rfl rfl rfl)) (.n)))))<| .pure rfl (fun H => .put (fun E hE => .buildO (offs := [(0,2),(2,1),(3,1)]) (l1 rfl) (.cons (.tmp (hE.at (k := 0) rfl)) (by first | exact ⟨rfl,rfl⟩ | rfl) (.cons (.tmp (hE.at (k := 1) rfl)) (by first | exact ⟨rfl,rfl⟩ | rfl) (.cons (.tmp (hE.at (k := 2) rfl)) (by first | exact ⟨rfl,rfl⟩ | rfl) (.nil)))) zero53 offs53 rfl))<| .pure rfl (fun H => .put (fun E hE => .frzAny (fun t ht => AStep.buildSlice (t := t) (out := ([(R52.mk (R24.mk a0.Gq.Pq a0.Gq.Bq) l3_19 a0.Ln)] : List R52).flatMap encR52) (l1 rfl) ht (.cons (.tmp (hE.at (k := 0) rfl)) (by first | exact ⟨rfl,rfl⟩ | rfl) (.nil)) Try.underlying60 zero53 el53 (by decide) (by decide) rfl (still_all encR52_still _)) rfl encR52_len))<| .turn rfl rfl rfl rfl rfl (.new (fun E hE => .app (enc := encR52) (l1 rfl) (nm rfl) (.tmp (hE.at (k := 0) rfl)) (Src.rd (.tmp (hE.at (k := 1) rfl)) (flatMap_length encR52_len _) (one_all encR52_one _) (.inl rfl)) Try.underlying60 ⟨_,Try.underlying60,by intro k hk; cases hk⟩ el53 rfl encR52_len rfl rfl (by decide) hl2_20) rfl)<| .read rfl (.c (.put (fun E hE => .assign (l1 rfl) (.tmp (hE.at (k := 0) rfl)))) (.n))<| .nil _) (fun E hE => .c (DInv.at hE (k := 0) rfl rfl rfl)<| .c (DInv.at hE (k := 23) rfl rfl rfl)<| .c (DInv.at hE (k := 2) rfl rfl rfl)<| .c (DInv.at hE (k := 3) rfl rfl rfl)<| .n _) rfl ?_
    refine AWP.vc (s' := ⟨[(2,.ptr 1 0),(6,.own 2 4 0 l2_20.length),(7,rW false y_2 eW),(8,iW x_15.1)],[(2,⟨53,true,l2_20.flatMap encR52⟩),(1,⟨53,false,(gW false false β3 a0.Gq a0.Path a0.Ln)⟩)]⟩) (VC.sub (.of rfl) (.of rfl)) ?_
    obtain ⟨t8_21,ht8_21,h⟩ := letS h
    refine AWP.rg (.cons (.move (l1 rfl) (.t rfl))<| .cons (.add (l1 rfl) (.t rfl) (.const _ _ _))<| .cons (.assign (l1 rfl) (.t rfl))<| ARun.nil _ _ _) ?_
    exact endJ (t8_21,l2_20) h (by subst ht8_21; exact VC.sub (.of rfl) (.of rfl))
   ·have h := iteF hc h
    refine AWP.exit ?_
    exact endJ x_15.2 h (VC.sub (.of rfl) (.of rfl))
theorem c90 {β1 : Bool} {β2 : Bool} {β3 : Bool} (n : Nat) (a0 : R24) (a1 : (List Int)) {r : Int} (h : m90 n a0 a1 = some r) : Spec Try.prog 90 [] [.agg (pW β1 β2 a0),rW β3 a1 eW] [] (iW r) [] := by
 refine Spec.of (fn := Try.f90) Try.func90 Try.ntmps90 rfl rfl (le1 rfl) (fun w0 Zs Zb T0 ι0 => ?_)
 unfold m90 at h
 refine AWP.seq ?_
 refine AWP.rg (.cons (.box (t := 1) (n := 2) (l1 rfl) (nm rfl) (.t rfl) (by first | exact ⟨rfl,rfl⟩ | rfl) rfl)<| .cons (.assign (l1 rfl) (.const _ _ _))<| ARun.nil _ _ _) ?_
 refine AWP.vc (s' := ⟨[(1,rW β3 a1 eW),(2,.ptr 1 0)],[(1,⟨32,false,(pW β1 β2 a0)⟩)]⟩) (VC.sub (.of rfl) (.of rfl)) ?_
 refine AWP.seq ?_
 refine AWP.rg (.cons (.assign (l1 rfl) (.const _ _ _))<| ARun.nil _ _ _) ?_
 refine AWP.vc (s' := ⟨[(1,rW β3 a1 eW),(2,.ptr 1 0),(5,iW (0 : Int))],[(1,⟨32,false,(pW β1 β2 a0)⟩)]⟩) (VC.sub (.of rfl) (.of rfl)) ?_
 refine AWP.seq ?_
 refine AWP.seq ?_
 refine AWP.rg (.cons (.assign (l1 rfl) (.const _ _ _))<| ARun.nil _ _ _) ?_
 refine AWP.vc (s' := ⟨[(1,rW β3 a1 eW),(2,.ptr 1 0),(5,iW (0 : Int)),(6,iW (1 : Int))],[(1,⟨32,false,(pW β1 β2 a0)⟩)]⟩) (VC.sub (.of rfl) (.of rfl)) ?_
 refine AWP.joinB' (S := fun p_14 : Int => ⟨[(5,iW p_14)],[]⟩) h (fun p_14 h => ?_) (fun k_15 h => ?_)
 ·refine AWP.seq ?_
  refine AWP.rg (.cons (.move (l1 rfl) (.t rfl))<| .cons (.assign (l1 rfl) (.t rfl))<| ARun.nil _ _ _) ?_
  refine AWP.ret ?_
  obtain rfl := Option.some.inj h
  refine retJ (Res.vc (s' := ⟨[(4,iW p_14)],[]⟩) (VC.sub (.of rfl) (.n _)) ?_)
  refine Res.drop (H := []) rfl ?_
  exact Res.of rfl (.cons (.tmp rfl) (.nil)) rfl rfl
 ·refine AWP.vc (s' := ⟨[(1,rW β3 a1 eW),(2,.ptr 1 0),(5,iW (0 : Int)),(6,iW (1 : Int))],[(1,⟨32,false,(pW β1 β2 a0)⟩)]⟩) (VC.sub (.of rfl) (.of rfl)) ?_
  refine AWP.loopM (S := fun x_7 : Int × Int => ⟨[(1,rW β3 a1 eW),(2,.ptr 1 0),(5,iW x_7.1),(6,iW x_7.2)],[(1,⟨32,false,(pW β1 β2 a0)⟩)]⟩) (x := ((0 : Int),(1 : Int))) (fun nx_8 x_7 h => ?_) h
  unfold m90_L1 at h
  refine AWP.seq ?_
  refine AWP.seq ?_
  refine AWP.rg (.cons (.move (l1 rfl) (.t rfl))<| .cons (.move (l1 rfl) (.t rfl))<| .cons (.lenRd (l1 rfl) (.t rfl) Try.underlying28)<| .cons (.lss (l1 rfl) (.t rfl) (.t rfl))<| ARun.nil _ _ _) ?_
  refine AWP.vc (s' := ⟨[(1,rW β3 a1 eW),(2,.ptr 1 0),(5,iW x_7.1),(6,iW x_7.2),(10,bW (decide (x_7.2 < (a1.length : Int))))],[(1,⟨32,false,(pW β1 β2 a0)⟩)]⟩) (VC.sub (.of rfl) (.of rfl)) ?_
  refine AWP.cond (.t rfl) (fun hc => ?_) (fun hc => ?_)
  ·have h := iteT hc h
   refine AWP.skip ?_
   refine AWP.seq ?_
   refine AWP.block ?_
   obtain ⟨y_9,hy_9,h⟩ := bindS h
   obtain ⟨y_10,hy_10,h⟩ := bindS h
   obtain ⟨y_11,hy_11,h⟩ := bindS h
   obtain ⟨t5_12,ht5_12,h⟩ := letS h
   refine AWP.draw (s' := ⟨[(1,rW β3 a1 eW),(2,.ptr 1 0),(5,iW (IntKind.wrap .i64 (x_7.1 + y_11))),(6,iW x_7.2)],[(1,⟨32,false,(pW β1 β2 a0)⟩)]⟩) mixed [⟨1,rW β3 a1 eW,none,[]⟩,⟨2,.ptr 1 0,none,[]⟩,⟨5,iW x_7.1,none,[13]⟩,⟨6,iW x_7.2,none,[]⟩,⟨10,bW (decide (x_7.2 < (a1.length : Int))),none,[]⟩,⟨13,iW x_7.1,some 0,[]⟩,⟨14,.agg (pW β1 β2 a0),some 1,[]⟩,⟨15,rW β3 a1 eW,some 2,[]⟩,⟨16,iW x_7.2,some 3,[]⟩,⟨17,iW (IntKind.wrap .i64 (x_7.2 - (1 : Int))),some 4,[]⟩,⟨18,.rptr β3 [iW y_9],some 5,[]⟩,⟨19,iW y_9,some 6,[]⟩,⟨20,rW β3 a1 eW,some 7,[]⟩,⟨21,iW x_7.2,some 8,[]⟩,⟨22,.rptr β3 [iW y_10],some 9,[]⟩,⟨23,iW y_10,some 10,[]⟩,⟨24,iW y_11,some 11,[]⟩,⟨25,iW (IntKind.wrap .i64 (x_7.1 + y_11)),some 12,[]⟩,⟨5,iW (IntKind.wrap .i64 (x_7.1 + y_11)),some 13,[]⟩] [⟨[2],0,0,some (13,iW x_7.1),[]⟩,⟨[1],0,0,some (14,.agg (pW β1 β2 a0)),[]⟩,⟨[0],0,0,some (15,rW β3 a1 eW),[]⟩,⟨[3],0,0,some (16,iW x_7.2),[]⟩,⟨[8],0,0,some (17,iW (IntKind.wrap .i64 (x_7.2 - (1 : Int)))),[]⟩,⟨[7,9],0,0,some (18,.rptr β3 [iW y_9]),[]⟩,⟨[10],0,0,some (19,iW y_9),[]⟩,⟨[0],0,0,some (20,rW β3 a1 eW),[]⟩,⟨[3],0,0,some (21,iW x_7.2),[]⟩,⟨[12,13],0,0,some (22,.rptr β3 [iW y_10]),[]⟩,⟨[14],0,0,some (23,iW y_10),[]⟩,⟨[6,11,15],0,0,some (24,iW y_11),[]⟩,⟨[5,16],0,0,some (25,iW (IntKind.wrap .i64 (x_7.1 + y_11))),[]⟩,⟨[17],0,0,some (5,iW (IntKind.wrap .i64 (x_7.1 + y_11))),[]⟩] [] [[(1,⟨32,false,(pW β1 β2 a0)⟩)]] [[],[],[],[],[3],[2,3,4],[2,3,4,5],[],[],[7,8],[7,8,9],[1,2,3,4,5,6,7,8,9,10],[0,1,2,3,4,5,6,7,8,9,10,11],[0,1,2,3,4,5,6,7,8,9,10,11,12]] (by kernel_rfl) (by kernel_rfl) (BornL.ok (.o<| .o<| .o<| .o<| .o<| .b rfl rfl<| .b rfl rfl<| .b rfl rfl<| .b rfl rfl<| .b rfl rfl<| .b rfl rfl<| .b rfl rfl<| .b rfl rfl<| .b rfl rfl<| .b rfl rfl<| .b rfl rfl<| .b rfl rfl<| .b rfl rfl<| .b rfl rfl<| .n)) (BaseL.ok (.o rfl<| .o rfl<| .o rfl<| .o rfl<| .o rfl<| .b<| .b<| .b<| .b<| .b<| .b<| .b<| .b<| .b<| .b<| .b<| .b<| .b<| .b<| .n)) rfl (by decide) (allLt rfl) (.pure rfl (fun H => .put (fun E hE => .move (l1 rfl) (.tmp (hE.at (k := 0) rfl))))<| .read rfl (.c (.put (fun E hE => .loadPA (l1 rfl) (.tmp (hE.at (k := 0) rfl)) agg32 rfl rfl rfl rfl)) .n)<| .pure rfl (fun H => .put (fun E hE => .move (l1 rfl) (.tmp (hE.at (k := 0) rfl))))<| .pure rfl (fun H => .put (fun E hE => .move (l1 rfl) (.tmp (hE.at (k := 0) rfl))))<| .pure rfl (fun H => .put (fun E hE => .sub (l1 rfl) (.tmp (hE.at (k := 0) rfl)) (.const _ _ _)))<| .pure rfl (fun H => .put (fun E hE => .indexRd (enc := eW) (l1 rfl) (.tmp (hE.at (k := 0) rfl)) (.tmp (hE.at (k := 1) rfl)) Try.underlying28 sz3 (encI_len .i64) rfl hy_9))<| .pure rfl (fun H => .put (fun E hE => .loadR (v := iW y_9) (l1 rfl) (.tmp (hE.at (k := 0) rfl)) one3 rfl))<| .pure rfl (fun H => .put (fun E hE => .move (l1 rfl) (.tmp (hE.at (k := 0) rfl))))<| .pure rfl (fun H => .put (fun E hE => .move (l1 rfl) (.tmp (hE.at (k := 0) rfl))))<| .pure rfl (fun H => .put (fun E hE => .indexRd (enc := eW) (l1 rfl) (.tmp (hE.at (k := 0) rfl)) (.tmp (hE.at (k := 1) rfl)) Try.underlying28 sz3 (encI_len .i64) rfl hy_10))<| .pure rfl (fun H => .put (fun E hE => .loadR (v := iW y_10) (l1 rfl) (.tmp (hE.at (k := 0) rfl)) one3 rfl))<| .pure rfl (fun H => .put (fun E hE => .call0 (bw := false) (l1 rfl) (c79 (β1 := β1) (β2 := β2) n (R24.mk a0.Pq a0.Bq) y_9 y_10 hy_11) (.cons (.tmp (hE.at (k := 0) rfl)) (.ren rfl) (.cons (.tmp (hE.at (k := 1) rfl)) (.ren rfl) (.cons (.tmp (hE.at (k := 2) rfl)) (.ren rfl) (.nil)))) rfl))<| .pure rfl (fun H => .put (fun E hE => .add (l1 rfl) (.tmp (hE.at (k := 0) rfl)) (.tmp (hE.at (k := 1) rfl))))<| .pure rfl (fun H => .put (fun E hE => .assign (l1 rfl) (.tmp (hE.at (k := 0) rfl))))<| .nil _) (fun E hE => .c (DInv.at hE (k := 0) rfl rfl rfl)<| .c (DInv.at hE (k := 1) rfl rfl rfl)<| .c (DInv.at hE (k := 18) rfl rfl rfl)<| .c (DInv.at hE (k := 3) rfl rfl rfl)<| .n _) rfl ?_
   refine AWP.vc (s' := ⟨[(1,rW β3 a1 eW),(2,.ptr 1 0),(5,iW t5_12),(6,iW x_7.2)],[(1,⟨32,false,(pW β1 β2 a0)⟩)]⟩) (by subst ht5_12; exact VC.sub (.of rfl) (.of rfl)) ?_
   obtain ⟨t6_13,ht6_13,h⟩ := letS h
   refine AWP.rg (.cons (.move (l1 rfl) (.t rfl))<| .cons (.add (l1 rfl) (.t rfl) (.const _ _ _))<| .cons (.assign (l1 rfl) (.t rfl))<| ARun.nil _ _ _) ?_
   exact endJ (t5_12,t6_13) h (by subst ht6_13; exact VC.sub (.of rfl) (.of rfl))
  ·have h := iteF hc h
   refine AWP.exit ?_
   exact endJ x_7.1 h (VC.sub (.of rfl) (.n _))
theorem c68 {β1 : Bool} {β2 : Bool} {β3 : Bool} (n : Nat) (a0 : R24) (a1 : (List Int)) {r : Int} (h : m68 n a0 a1 = some r) : Spec Try.prog 68 [] [.agg (pW β1 β2 a0),rW β3 a1 eW] [] (iW r) [] := by
 refine Spec.of (fn := Try.f68) Try.func68 Try.ntmps68 rfl rfl (le1 rfl) (fun w0 Zs Zb T0 ι0 => ?_)
 unfold m68 at h
 refine AWP.seq ?_
 refine AWP.rg (.cons (.box (t := 1) (n := 2) (l1 rfl) (nm rfl) (.t rfl) (by first | exact ⟨rfl,rfl⟩ | rfl) rfl)<| .cons (.assign (l1 rfl) (.const _ _ _))<| ARun.nil _ _ _) ?_
 refine AWP.vc (s' := ⟨[(1,rW β3 a1 eW),(2,.ptr 1 0)],[(1,⟨32,false,(pW β1 β2 a0)⟩)]⟩) (VC.sub (.of rfl) (.of rfl)) ?_
 refine AWP.seq ?_
 obtain ⟨y_1,hy_1,h⟩ := bindS h
 obtain ⟨y_2,hy_2,h⟩ := bindS h
 obtain ⟨y_3,hy_3,h⟩ := bindS h
 obtain ⟨t4_4,ht4_4,h⟩ := letS h
 refine AWP.draw (s' := ⟨[(4,iW (IntKind.wrap .i64 (y_1 + y_3)))],[(1,⟨32,false,(pW β1 β2 a0)⟩)]⟩) mixed [⟨1,rW β3 a1 eW,none,[]⟩,⟨2,.ptr 1 0,none,[]⟩,⟨5,.agg (pW β1 β2 a0),some 0,[]⟩,⟨6,rW β3 a1 eW,some 1,[]⟩,⟨7,iW y_1,some 2,[]⟩,⟨8,.agg (pW β1 β2 a0),some 3,[]⟩,⟨9,rW β3 a1 eW,some 4,[]⟩,⟨10,rW β3 a1 eW,some 5,[]⟩,⟨11,iW (a1.length : Int),some 6,[]⟩,⟨12,iW (IntKind.wrap .i64 ((a1.length : Int) - (1 : Int))),some 7,[]⟩,⟨13,.rptr β3 [iW y_2],some 8,[]⟩,⟨14,iW y_2,some 9,[]⟩,⟨15,iW y_3,some 10,[]⟩,⟨16,iW (IntKind.wrap .i64 (y_1 + y_3)),some 11,[]⟩,⟨4,iW (IntKind.wrap .i64 (y_1 + y_3)),some 12,[]⟩] [⟨[1],0,0,some (5,.agg (pW β1 β2 a0)),[]⟩,⟨[0],0,0,some (6,rW β3 a1 eW),[]⟩,⟨[2,3],0,0,some (7,iW y_1),[]⟩,⟨[1],0,0,some (8,.agg (pW β1 β2 a0)),[]⟩,⟨[0],0,0,some (9,rW β3 a1 eW),[]⟩,⟨[0],0,0,some (10,rW β3 a1 eW),[]⟩,⟨[7],0,0,some (11,iW (a1.length : Int)),[]⟩,⟨[8],0,0,some (12,iW (IntKind.wrap .i64 ((a1.length : Int) - (1 : Int)))),[]⟩,⟨[6,9],0,0,some (13,.rptr β3 [iW y_2]),[]⟩,⟨[10],0,0,some (14,iW y_2),[]⟩,⟨[5,11],0,0,some (15,iW y_3),[]⟩,⟨[4,12],0,0,some (16,iW (IntKind.wrap .i64 (y_1 + y_3))),[]⟩,⟨[13],0,0,some (4,iW (IntKind.wrap .i64 (y_1 + y_3))),[]⟩] [] [[(1,⟨32,false,(pW β1 β2 a0)⟩)]] [[],[],[0,1],[],[],[],[5],[5,6],[4,5,6,7],[4,5,6,7,8],[0,1,2,3,4,5,6,7,8,9],[0,1,2,3,4,5,6,7,8,9,10],[0,1,2,3,4,5,6,7,8,9,10,11]] (by kernel_rfl) (by kernel_rfl) (BornL.ok (.o<| .o<| .b rfl rfl<| .b rfl rfl<| .b rfl rfl<| .b rfl rfl<| .b rfl rfl<| .b rfl rfl<| .b rfl rfl<| .b rfl rfl<| .b rfl rfl<| .b rfl rfl<| .b rfl rfl<| .b rfl rfl<| .b rfl rfl<| .n)) (BaseL.ok (.o rfl<| .o rfl<| .b<| .b<| .b<| .b<| .b<| .b<| .b<| .b<| .b<| .b<| .b<| .b<| .b<| .n)) rfl (by decide) (allLt rfl) (.read rfl (.c (.put (fun E hE => .loadPA (l1 rfl) (.tmp (hE.at (k := 0) rfl)) agg32 rfl rfl rfl rfl)) .n)<| .pure rfl (fun H => .put (fun E hE => .move (l1 rfl) (.tmp (hE.at (k := 0) rfl))))<| .pure rfl (fun H => .put (fun E hE => .call0 (bw := false) (l1 rfl) (c90 (β1 := β1) (β2 := β2) (β3 := β3) n (R24.mk a0.Pq a0.Bq) a1 hy_1) (.cons (.tmp (hE.at (k := 0) rfl)) (.ren rfl) (.cons (.tmp (hE.at (k := 1) rfl)) (.ren rfl) (.nil))) rfl))<| .read rfl (.c (.put (fun E hE => .loadPA (l1 rfl) (.tmp (hE.at (k := 0) rfl)) agg32 rfl rfl rfl rfl)) .n)<| .pure rfl (fun H => .put (fun E hE => .move (l1 rfl) (.tmp (hE.at (k := 0) rfl))))<| .pure rfl (fun H => .put (fun E hE => .move (l1 rfl) (.tmp (hE.at (k := 0) rfl))))<| .pure rfl (fun H => .put (fun E hE => .lenRd (l1 rfl) (.tmp (hE.at (k := 0) rfl)) Try.underlying28))<| .pure rfl (fun H => .put (fun E hE => .sub (l1 rfl) (.tmp (hE.at (k := 0) rfl)) (.const _ _ _)))<| .pure rfl (fun H => .put (fun E hE => .indexRd (enc := eW) (l1 rfl) (.tmp (hE.at (k := 0) rfl)) (.tmp (hE.at (k := 1) rfl)) Try.underlying28 sz3 (encI_len .i64) rfl hy_2))<| .pure rfl (fun H => .put (fun E hE => .loadR (v := iW y_2) (l1 rfl) (.tmp (hE.at (k := 0) rfl)) one3 rfl))<| .pure rfl (fun H => .put (fun E hE => .call0 (bw := false) (l1 rfl) (c79 (β1 := β1) (β2 := β2) n (R24.mk a0.Pq a0.Bq) y_2 (0 : Int) hy_3) (.cons (.tmp (hE.at (k := 0) rfl)) (.ren rfl) (.cons (.tmp (hE.at (k := 1) rfl)) (.ren rfl) (.cons (.const _ _ _) (.ren rfl) (.nil)))) rfl))<| .pure rfl (fun H => .put (fun E hE => .add (l1 rfl) (.tmp (hE.at (k := 0) rfl)) (.tmp (hE.at (k := 1) rfl))))<| .pure rfl (fun H => .put (fun E hE => .assign (l1 rfl) (.tmp (hE.at (k := 0) rfl))))<| .nil _) (fun E hE => .c (DInv.at hE (k := 14) rfl rfl rfl)<| .n _) rfl ?_
 refine AWP.ret ?_
 obtain rfl := Option.some.inj h
 refine retJ (Res.vc (s' := ⟨[(4,iW t4_4)],[]⟩) (by subst ht4_4; exact VC.sub (.of rfl) (.n _)) ?_)
 refine Res.drop (H := []) rfl ?_
 exact Res.of rfl (.cons (.tmp rfl) (.nil)) rfl rfl
theorem c105 {β1 : Bool} (n : Nat) (a0 : (List Int)) (a1 : Int) {r : Int} (h : m105 n a0 a1 = some r) : Spec Try.prog 105 [] [rW β1 a0 eW,iW a1] [] (iW r) [] := by
 refine Spec.of (fn := Try.f105) Try.func105 Try.ntmps105 rfl rfl (le1 rfl) (fun w0 Zs Zb T0 ι0 => ?_)
 unfold m105 at h
 refine AWP.seq ?_
 refine AWP.rg (.cons (.assign (l1 rfl) (.const _ _ _))<| ARun.nil _ _ _) ?_
 refine AWP.vc (s' := ⟨[(0,rW β1 a0 eW),(1,iW a1)],[]⟩) (VC.sub (.of rfl) (.n _)) ?_
 refine AWP.seq ?_
 refine AWP.seq ?_
 refine AWP.rg (.cons (.move (l1 rfl) (.t rfl))<| .cons (.lenRd (l1 rfl) (.t rfl) Try.underlying28)<| .cons (.move (l1 rfl) (.const _ _ _))<| ARun.nil _ _ _) ?_
 refine AWP.vc (s' := ⟨[(0,rW β1 a0 eW),(1,iW a1),(7,iW (a0.length : Int)),(8,iW (0 : Int))],[]⟩) (VC.sub (.of rfl) (.n _)) ?_
 refine AWP.joinB' (S := fun p_8 : Unit => ⟨[],[]⟩) h (fun p_8 h => ?_) (fun k_9 h => ?_)
 ·refine AWP.seq ?_
  refine AWP.rg (.cons (.assign (l1 rfl) (.const _ _ _))<| ARun.nil _ _ _) ?_
  refine AWP.ret ?_
  obtain rfl := Option.some.inj h
  refine retJ (Res.vc (s' := ⟨[(4,iW (-1 : Int))],[]⟩) (VC.sub (.of rfl) (.n _)) ?_)
  refine Res.drop (H := []) rfl ?_
  exact Res.of rfl (.cons (.tmp rfl) (.nil)) rfl rfl
 ·refine AWP.vc (s' := ⟨[(0,rW β1 a0 eW),(1,iW a1),(7,iW (a0.length : Int)),(8,iW (0 : Int))],[]⟩) (VC.sub (.of rfl) (.n _)) ?_
  refine AWP.loopM (S := fun x_4 : Int => ⟨[(0,rW β1 a0 eW),(1,iW a1),(7,iW (a0.length : Int)),(8,iW x_4)],[]⟩) (x := (0 : Int)) (fun nx_5 x_4 h => ?_) h
  unfold m105_L1 at h
  refine AWP.seq ?_
  refine AWP.rg (.cons (.lss (l1 rfl) (.t rfl) (.t rfl))<| ARun.nil _ _ _) ?_
  refine AWP.vc (s' := ⟨[(0,rW β1 a0 eW),(1,iW a1),(7,iW (a0.length : Int)),(8,iW x_4),(9,bW (decide (x_4 < (a0.length : Int))))],[]⟩) (VC.sub (.of rfl) (.n _)) ?_
  refine AWP.seq ?_
  refine AWP.cond (.t rfl) (fun hc => ?_) (fun hc => ?_)
  ·have h := iteT hc h
   refine AWP.skip ?_
   refine AWP.seq ?_
   refine AWP.block ?_
   refine AWP.seq ?_
   refine AWP.rg (.cons (.move (l1 rfl) (.t rfl))<| .cons (.assign (l1 rfl) (.t rfl))<| ARun.nil _ _ _) ?_
   refine AWP.vc (s' := ⟨[(0,rW β1 a0 eW),(1,iW a1),(7,iW (a0.length : Int)),(8,iW x_4),(5,iW x_4)],[]⟩) (VC.sub (.of rfl) (.n _)) ?_
   refine AWP.seq ?_
   obtain ⟨y_6,hy_6,h⟩ := bindS h
   refine AWP.rg (.cons (.move (l1 rfl) (.t rfl))<| .cons (.move (l1 rfl) (.t rfl))<| .cons (.move (l1 rfl) (.t rfl))<| .cons (.indexRd (enc := eW) (l1 rfl) (.t rfl) (.t rfl) Try.underlying28 sz3 (encI_len .i64) rfl hy_6)<| .cons (.loadR (v := iW y_6) (l1 rfl) (.t rfl) one3 rfl)<| .cons (.eql (l1 rfl) (.t rfl) (.t rfl))<| ARun.nil _ _ _) ?_
   refine AWP.vc (s' := ⟨[(0,rW β1 a0 eW),(1,iW a1),(7,iW (a0.length : Int)),(8,iW x_4),(5,iW x_4),(16,bW (decide (a1 = y_6)))],[]⟩) (VC.sub (.of rfl) (.n _)) ?_
   refine AWP.cond (.t rfl) (fun hc => ?_) (fun hc => ?_)
   ·have h := iteT hc h
    refine AWP.seq ?_
    refine AWP.rg (.cons (.move (l1 rfl) (.t rfl))<| .cons (.assign (l1 rfl) (.t rfl))<| ARun.nil _ _ _) ?_
    refine AWP.ret ?_
    obtain rfl := Option.some.inj h
    refine retJ (Res.vc (s' := ⟨[(4,iW x_4)],[]⟩) (VC.sub (.of rfl) (.n _)) ?_)
    refine Res.drop (H := []) rfl ?_
    exact Res.of rfl (.cons (.tmp rfl) (.nil)) rfl rfl
   ·have h := iteF hc h
    refine AWP.skip ?_
    obtain ⟨t8_7,ht8_7,h⟩ := letS h
    refine AWP.rg (.cons (.add (l1 rfl) (.t rfl) (.const _ _ _))<| .cons (.move (l1 rfl) (.t rfl))<| ARun.nil _ _ _) ?_
    exact endJ t8_7 h (by subst ht8_7; exact VC.sub (.of rfl) (.n _))
  ·have h := iteF hc h
   refine AWP.exit ?_
   exact endJ () h (VC.sub (.n _) (.n _))
theorem c91 {β1 : Bool} (n : Nat) (a0 : (List Int)) (a1 : Int) {r : Bool} (h : m91 n a0 a1 = some r) : Spec Try.prog 91 [] [rW β1 a0 eW,iW a1] [] (bW r) [] := by
 refine Spec.of (fn := Try.f91) Try.func91 Try.ntmps91 rfl rfl (le1 rfl) (fun w0 Zs Zb T0 ι0 => ?_)
 unfold m91 at h
 refine AWP.seq ?_
 refine AWP.rg (.cons (.assign (l1 rfl) (.const _ _ _))<| ARun.nil _ _ _) ?_
 refine AWP.vc (s' := ⟨[(0,rW β1 a0 eW),(1,iW a1)],[]⟩) (VC.sub (.of rfl) (.n _)) ?_
 refine AWP.seq ?_
 obtain ⟨y_1,hy_1,h⟩ := bindS h
 refine AWP.rg (.cons (.move (l1 rfl) (.t rfl))<| .cons (.move (l1 rfl) (.t rfl))<| .cons (.call0 (bw := false) (l1 rfl) (c105 (β1 := β1) n a0 a1 hy_1) (.cons (.t rfl) (.ren rfl) (.cons (.t rfl) (.ren rfl) (.nil))) rfl)<| .cons (.geq (l1 rfl) (.t rfl) (.const _ _ _))<| .cons (.assign (l1 rfl) (.t rfl))<| ARun.nil _ _ _) ?_
 refine AWP.ret ?_
 obtain rfl := Option.some.inj h
 refine retJ (Res.vc (s' := ⟨[(4,bW (decide ((0 : Int) ≤ y_1)))],[]⟩) (VC.sub (.of rfl) (.n _)) ?_)
 refine Res.drop (H := []) rfl ?_
 exact Res.of rfl (.cons (.tmp rfl) (.nil)) rfl rfl
theorem c65 {β1 : Bool} {β2 : Bool} {β3 : Bool} {β4 : Bool} (n : Nat) (a0 : R57) (a1 : (List Int)) {r : Int} (h : m65 n a0 a1 = some r) : Spec Try.prog 65 [] [.agg (gW β1 β2 β3 a0.Gq a0.Path a0.Ln),rW β4 a1 eW] [] (iW r) [] := by
 refine Spec.of (fn := Try.f65) Try.func65 Try.ntmps65 rfl rfl (le1 rfl) (fun w0 Zs Zb T0 ι0 => ?_)
 unfold m65 at h
 refine AWP.seq ?_
 refine AWP.rg (.cons (.box (t := 1) (n := 4) (l1 rfl) (nm rfl) (.t rfl) (by first | exact ⟨rfl,rfl⟩ | rfl) rfl)<| .cons (.assign (l1 rfl) (.const _ _ _))<| ARun.nil _ _ _) ?_
 refine AWP.vc (s' := ⟨[(1,rW β4 a1 eW),(2,.ptr 1 0)],[(1,⟨58,false,(gW β1 β2 β3 a0.Gq a0.Path a0.Ln)⟩)]⟩) (VC.sub (.of rfl) (.of rfl)) ?_
 refine AWP.seq ?_
 refine AWP.rg (.cons (.fieldP (l1 rfl) (.t rfl) fld58_0)<| .cons (.loadPA (l1 rfl) (.t rfl) agg32 rfl rfl rfl rfl)<| .cons (.alloc (t := 2) (k := ⟨32,false,[.sc (.slice none 0 0),.sc (.slice none 0 0)]⟩) (l1 rfl) (nm rfl) zero32 rfl rfl)<| .cons (.storePA (.t rfl) (.t rfl) sz32 rfl rfl (le1 rfl) (one_lit rfl) (by intro h; cases h) rfl)<| ARun.nil _ _ _) ?_
 refine AWP.vc (s' := ⟨[(1,rW β4 a1 eW),(2,.ptr 1 0),(5,.ptr 2 0)],[(2,⟨32,false,(pW β1 β2 a0.Gq)⟩),(1,⟨58,false,(gW β1 β2 β3 a0.Gq a0.Path a0.Ln)⟩)]⟩) (VC.sub (.of rfl) (.of rfl)) ?_
 refine AWP.seq ?_
 refine AWP.block ?_
 refine AWP.seq ?_
 refine AWP.rg (.cons (.fieldP (l1 rfl) (.t rfl) fld58_1)<| .cons (.loadP (l1 rfl) (.t rfl) one28 rfl rfl rfl)<| .cons (.lenRd (l1 rfl) (.t rfl) Try.underlying28)<| .cons (.fieldP (l1 rfl) (.t rfl) fld32_0)<| .cons (.loadP (l1 rfl) (.t rfl) one22 rfl rfl rfl)<| .cons (.lenRd (l1 rfl) (.t rfl) Try.underlying22)<| .cons (.eql (l1 rfl) (.t rfl) (.t rfl))<| .cons (.assign (l1 rfl) (.t rfl))<| ARun.nil _ _ _) ?_
 refine AWP.vc (s' := ⟨[(1,rW β4 a1 eW),(2,.ptr 1 0),(5,.ptr 2 0),(14,bW (decide ((a0.Path.length : Int) = (a0.Gq.Pq.length : Int))))],[(2,⟨32,false,(pW β1 β2 a0.Gq)⟩),(1,⟨58,false,(gW β1 β2 β3 a0.Gq a0.Path a0.Ln)⟩)]⟩) (VC.sub (.of rfl) (.of rfl)) ?_
 refine AWP.cond (.t rfl) (fun hc => ?_) (fun hc => ?_)
 ·have h := iteT hc h
  refine AWP.seq ?_
  obtain ⟨y_1,hy_1,h⟩ := bindS h
  refine AWP.rg (.cons (.loadPA (l1 rfl) (.t rfl) agg32 rfl rfl rfl rfl)<| .cons (.fieldP (l1 rfl) (.t rfl) fld58_1)<| .cons (.loadP (l1 rfl) (.t rfl) one28 rfl rfl rfl)<| .cons (.call0 (bw := false) (l1 rfl) (c68 (β1 := β1) (β2 := β2) (β3 := β3) n (R24.mk a0.Gq.Pq a0.Gq.Bq) a0.Path hy_1) (.cons (.t rfl) (.ren rfl) (.cons (.t rfl) (.ren rfl) (.nil))) rfl)<| .cons (.assign (l1 rfl) (.t rfl))<| ARun.nil _ _ _) ?_
  refine AWP.ret ?_
  obtain rfl := Option.some.inj h
  refine retJ (Res.vc (s' := ⟨[(4,iW y_1)],[]⟩) (VC.sub (.of rfl) (.n _)) ?_)
  refine Res.drop (H := []) rfl ?_
  exact Res.of rfl (.cons (.tmp rfl) (.nil)) rfl rfl
 ·have h := iteF hc h
  refine AWP.seq ?_
  refine AWP.rg (.cons (.fieldP (l1 rfl) (.t rfl) fld58_1)<| .cons (.loadP (l1 rfl) (.t rfl) one28 rfl rfl rfl)<| .cons (.lenRd (l1 rfl) (.t rfl) Try.underlying28)<| .cons (.eql (l1 rfl) (.t rfl) (.const _ _ _))<| .cons (.assign (l1 rfl) (.t rfl))<| ARun.nil _ _ _) ?_
  refine AWP.vc (s' := ⟨[(1,rW β4 a1 eW),(2,.ptr 1 0),(5,.ptr 2 0),(26,bW (decide ((a0.Path.length : Int) = (1 : Int))))],[(2,⟨32,false,(pW β1 β2 a0.Gq)⟩),(1,⟨58,false,(gW β1 β2 β3 a0.Gq a0.Path a0.Ln)⟩)]⟩) (VC.sub (.of rfl) (.of rfl)) ?_
  refine AWP.cond (.t rfl) (fun hc => ?_) (fun hc => ?_)
  ·have h := iteT hc h
   refine AWP.seq ?_
   obtain ⟨y_2,hy_2,h⟩ := bindS h
   refine AWP.rg (.cons (.loadPA (l1 rfl) (.t rfl) agg32 rfl rfl rfl rfl)<| .cons (.move (l1 rfl) (.t rfl))<| .cons (.call0 (bw := false) (l1 rfl) (c49 (β1 := β1) (β2 := β2) (β3 := β4) n (R24.mk a0.Gq.Pq a0.Gq.Bq) a1 hy_2) (.cons (.t rfl) (.ren rfl) (.cons (.t rfl) (.ren rfl) (.nil))) rfl)<| .cons (.move (l1 rfl) (.t rfl))<| .cons (.extract (l1 rfl) (.t rfl) rfl)<| .cons (.extract (l1 rfl) (.t rfl) rfl)<| .cons (.assign (l1 rfl) (.t rfl))<| .cons (.assign (l1 rfl) (.t rfl))<| ARun.nil _ _ _) ?_
   refine AWP.vc (s' := ⟨[(6,iW y_2.1)],[]⟩) (VC.sub (.of rfl) (.n _)) ?_
   refine AWP.seq ?_
   refine AWP.rg (.cons (.move (l1 rfl) (.t rfl))<| .cons (.assign (l1 rfl) (.t rfl))<| ARun.nil _ _ _) ?_
   refine AWP.ret ?_
   obtain rfl := Option.some.inj h
   refine retJ (Res.vc (s' := ⟨[(4,iW y_2.1)],[]⟩) (VC.sub (.of rfl) (.n _)) ?_)
   refine Res.drop (H := []) rfl ?_
   exact Res.of rfl (.cons (.tmp rfl) (.nil)) rfl rfl
  ·have h := iteF hc h
   refine AWP.skip ?_
   refine AWP.seq ?_
   obtain ⟨y_3,hy_3,h⟩ := bindS h
   refine AWP.rg (.cons (.fieldP (l1 rfl) (.t rfl) fld58_1)<| .cons (.loadP (l1 rfl) (.t rfl) one28 rfl rfl rfl)<| .cons (.fieldP (l1 rfl) (.t rfl) fld58_1)<| .cons (.loadP (l1 rfl) (.t rfl) one28 rfl rfl rfl)<| .cons (.lenRd (l1 rfl) (.t rfl) Try.underlying28)<| .cons (.sub (l1 rfl) (.t rfl) (.const _ _ _))<| .cons (.indexRd (enc := eW) (l1 rfl) (.t rfl) (.t rfl) Try.underlying28 sz3 (encI_len .i64) rfl hy_3)<| .cons (.loadR (v := iW y_3) (l1 rfl) (.t rfl) one3 rfl)<| .cons (.assign (l1 rfl) (.t rfl))<| ARun.nil _ _ _) ?_
   refine AWP.vc (s' := ⟨[(1,rW β4 a1 eW),(2,.ptr 1 0),(5,.ptr 2 0),(8,iW y_3)],[(2,⟨32,false,(pW β1 β2 a0.Gq)⟩),(1,⟨58,false,(gW β1 β2 β3 a0.Gq a0.Path a0.Ln)⟩)]⟩) (VC.sub (.of rfl) (.of rfl)) ?_
   refine AWP.seq ?_
   obtain ⟨l3_4,hl3_4,h⟩ := letS h
   refine AWP.rg (.cons (.move (l1 rfl) (.t rfl))<| .cons (.buildSlice (t := 3) (out := ([y_3,(0 : Int)] : List Int).flatMap eW) (l1 rfl) (nm rfl) (.cons (.t rfl) (by first | exact ⟨rfl,rfl⟩ | rfl) (.cons (.const _ _ _) (by first | exact ⟨rfl,rfl⟩ | rfl) (.nil))) Try.underlying28 zero3 el3 (by decide) (by decide) rfl (still_all (encI_still .i64) _))<| .cons (.assign (l1 rfl) (.t rfl))<| ARun.nil _ _ _) ?_
   refine AWP.vc (s' := ⟨[(1,rW β4 a1 eW),(2,.ptr 1 0),(5,.ptr 2 0),(8,iW y_3),(9,.own 3 1 0 l3_4.length)],[(3,⟨3,true,l3_4.flatMap eW⟩),(2,⟨32,false,(pW β1 β2 a0.Gq)⟩),(1,⟨58,false,(gW β1 β2 β3 a0.Gq a0.Path a0.Ln)⟩)]⟩) (by subst hl3_4; exact VC.sub (.of rfl) (.of rfl)) ?_
   refine AWP.seq ?_
   obtain ⟨y_5,hy_5,h⟩ := bindS h
   obtain ⟨y_6,hy_6,h⟩ := bindS h
   obtain ⟨y_7,hy_7,h⟩ := bindS h
   obtain ⟨t10_8,ht10_8,h⟩ := letS h
   refine AWP.draw (s' := ⟨[(1,rW β4 a1 eW),(2,.ptr 1 0),(5,.ptr 2 0),(9,.own 3 1 0 l3_4.length),(10,iW (IntKind.wrap .i64 ((IntKind.wrap .i64 (y_5 - y_6)) - y_7)))],[(3,⟨3,true,l3_4.flatMap eW⟩),(2,⟨32,false,(pW β1 β2 a0.Gq)⟩),(1,⟨58,false,(gW β1 β2 β3 a0.Gq a0.Path a0.Ln)⟩)]⟩) mixed [⟨1,rW β4 a1 eW,none,[]⟩,⟨2,.ptr 1 0,none,[]⟩,⟨5,.ptr 2 0,none,[]⟩,⟨8,iW y_3,none,[]⟩,⟨9,.own 3 1 0 l3_4.length,none,[]⟩,⟨48,.agg (pW β1 β2 a0.Gq),some 0,[]⟩,⟨49,.ptr 1 (0 + 2),some 1,[]⟩,⟨50,rW β3 a0.Path eW,some 2,[]⟩,⟨51,iW y_5,some 3,[]⟩,⟨52,rW β4 a1 eW,some 4,[]⟩,⟨53,iW y_3,some 5,[]⟩,⟨54,.rptr β4 [iW y_6],some 6,[]⟩,⟨55,iW y_6,some 7,[]⟩,⟨56,iW (IntKind.wrap .i64 (y_5 - y_6)),some 8,[]⟩,⟨57,rW β4 a1 eW,some 9,[]⟩,⟨58,.rptr β4 [iW y_7],some 10,[]⟩,⟨59,iW y_7,some 11,[]⟩,⟨60,iW (IntKind.wrap .i64 ((IntKind.wrap .i64 (y_5 - y_6)) - y_7)),some 12,[]⟩,⟨10,iW (IntKind.wrap .i64 ((IntKind.wrap .i64 (y_5 - y_6)) - y_7)),some 13,[]⟩] [⟨[2],0,0,some (48,.agg (pW β1 β2 a0.Gq)),[]⟩,⟨[1],0,0,some (49,.ptr 1 (0 + 2)),[]⟩,⟨[6],0,0,some (50,rW β3 a0.Path eW),[]⟩,⟨[5,7],0,0,some (51,iW y_5),[]⟩,⟨[0],0,0,some (52,rW β4 a1 eW),[]⟩,⟨[3],0,0,some (53,iW y_3),[]⟩,⟨[9,10],0,0,some (54,.rptr β4 [iW y_6]),[]⟩,⟨[11],0,0,some (55,iW y_6),[]⟩,⟨[8,12],0,0,some (56,iW (IntKind.wrap .i64 (y_5 - y_6))),[]⟩,⟨[0],0,0,some (57,rW β4 a1 eW),[]⟩,⟨[14],0,0,some (58,.rptr β4 [iW y_7]),[]⟩,⟨[15],0,0,some (59,iW y_7),[]⟩,⟨[13,16],0,0,some (60,iW (IntKind.wrap .i64 ((IntKind.wrap .i64 (y_5 - y_6)) - y_7))),[]⟩,⟨[17],0,0,some (10,iW (IntKind.wrap .i64 ((IntKind.wrap .i64 (y_5 - y_6)) - y_7))),[]⟩] [] [[(3,⟨3,true,l3_4.flatMap eW⟩),(2,⟨32,false,(pW β1 β2 a0.Gq)⟩),(1,⟨58,false,(gW β1 β2 β3 a0.Gq a0.Path a0.Ln)⟩)]] [[],[],[1],[0,1,2],[],[],[4,5],[4,5,6],[0,1,2,3,4,5,6,7],[],[9],[9,10],[0,1,2,3,4,5,6,7,8,9,10,11],[0,1,2,3,4,5,6,7,8,9,10,11,12]] (by kernel_rfl) (by kernel_rfl) (BornL.ok (.o<| .o<| .o<| .o<| .o<| .b rfl rfl<| .b rfl rfl<| .b rfl rfl<| .b rfl rfl<| .b rfl rfl<| .b rfl rfl<| .b rfl rfl<| .b rfl rfl<| .b rfl rfl<| .b rfl rfl<| .b rfl rfl<| .b rfl rfl<| .b rfl rfl<| .b rfl rfl<| .n)) (BaseL.ok (.o rfl<| .o rfl<| .o rfl<| .o rfl<| .o rfl<| .b<| .b<| .b<| .b<| .b<| .b<| .b<| .b<| .b<| .b<| .b<| .b<| .b<| .b<| .n)) rfl (by decide) (allLt rfl) (.read rfl (.c (.put (fun E hE => .loadPA (l1 rfl) (.tmp (hE.at (k := 0) rfl)) agg32 rfl rfl rfl rfl)) .n)<| .read rfl (.c (.put (fun E hE => .fieldP (l1 rfl) (.tmp (hE.at (k := 0) rfl)) fld58_1)) .n)<| .read rfl (.c (.put (fun E hE => .loadP (l1 rfl) (.tmp (hE.at (k := 0) rfl)) one28 rfl rfl rfl)) .n)<| .pure rfl (fun H => .put (fun E hE => .call0 (bw := false) (l1 rfl) (c90 (β1 := β1) (β2 := β2) (β3 := β3) n (R24.mk a0.Gq.Pq a0.Gq.Bq) a0.Path hy_5) (.cons (.tmp (hE.at (k := 0) rfl)) (.ren rfl) (.cons (.tmp (hE.at (k := 1) rfl)) (.ren rfl) (.nil))) rfl))<| .pure rfl (fun H => .put (fun E hE => .move (l1 rfl) (.tmp (hE.at (k := 0) rfl))))<| .pure rfl (fun H => .put (fun E hE => .move (l1 rfl) (.tmp (hE.at (k := 0) rfl))))<| .pure rfl (fun H => .put (fun E hE => .indexRd (enc := eW) (l1 rfl) (.tmp (hE.at (k := 0) rfl)) (.tmp (hE.at (k := 1) rfl)) Try.underlying28 sz3 (encI_len .i64) rfl hy_6))<| .pure rfl (fun H => .put (fun E hE => .loadR (v := iW y_6) (l1 rfl) (.tmp (hE.at (k := 0) rfl)) one3 rfl))<| .pure rfl (fun H => .put (fun E hE => .sub (l1 rfl) (.tmp (hE.at (k := 0) rfl)) (.tmp (hE.at (k := 1) rfl))))<| .pure rfl (fun H => .put (fun E hE => .move (l1 rfl) (.tmp (hE.at (k := 0) rfl))))<| .pure rfl (fun H => .put (fun E hE => .indexRd (enc := eW) (l1 rfl) (.tmp (hE.at (k := 0) rfl)) (.const _ _ _) Try.underlying28 sz3 (encI_len .i64) rfl hy_7))<| .pure rfl (fun H => .put (fun E hE => .loadR (v := iW y_7) (l1 rfl) (.tmp (hE.at (k := 0) rfl)) one3 rfl))<| .pure rfl (fun H => .put (fun E hE => .sub (l1 rfl) (.tmp (hE.at (k := 0) rfl)) (.tmp (hE.at (k := 1) rfl))))<| .pure rfl (fun H => .put (fun E hE => .assign (l1 rfl) (.tmp (hE.at (k := 0) rfl))))<| .nil _) (fun E hE => .c (DInv.at hE (k := 0) rfl rfl rfl)<| .c (DInv.at hE (k := 1) rfl rfl rfl)<| .c (DInv.at hE (k := 2) rfl rfl rfl)<| .c (DInv.at hE (k := 4) rfl rfl rfl)<| .c (DInv.at hE (k := 18) rfl rfl rfl)<| .n _) rfl ?_
   refine AWP.vc (s' := ⟨[(1,rW β4 a1 eW),(2,.ptr 1 0),(5,.ptr 2 0),(9,.own 3 1 0 l3_4.length),(10,iW t10_8)],[(3,⟨3,true,l3_4.flatMap eW⟩),(2,⟨32,false,(pW β1 β2 a0.Gq)⟩),(1,⟨58,false,(gW β1 β2 β3 a0.Gq a0.Path a0.Ln)⟩)]⟩) (by subst ht10_8; exact VC.sub (.of rfl) (.of rfl)) ?_
   refine AWP.seq ?_
   refine AWP.seq ?_
   obtain ⟨t63_9,ht63_9,h⟩ := letS h
   refine AWP.rg (.cons (.fieldP (l1 rfl) (.t rfl) fld32_0)<| .cons (.loadP (l1 rfl) (.t rfl) one22 rfl rfl rfl)<| .cons (.lenRd (l1 rfl) (.t rfl) Try.underlying22)<| .cons (.move (l1 rfl) (.const _ _ _))<| ARun.nil _ _ _) ?_
   refine AWP.vc (s' := ⟨[(1,rW β4 a1 eW),(2,.ptr 1 0),(5,.ptr 2 0),(9,.own 3 1 0 l3_4.length),(10,iW t10_8),(63,iW t63_9),(64,iW (0 : Int))],[(3,⟨3,true,l3_4.flatMap eW⟩),(2,⟨32,false,(pW β1 β2 a0.Gq)⟩),(1,⟨58,false,(gW β1 β2 β3 a0.Gq a0.Path a0.Ln)⟩)]⟩) (by subst ht63_9; exact VC.sub (.of rfl) (.of rfl)) ?_
   refine AWP.joinB' (S := fun p_35 : Int × (List Int) => ⟨[(1,rW β4 a1 eW),(5,.ptr 2 0),(9,.own 3 1 0 p_35.2.length),(10,iW p_35.1)],[(2,⟨32,false,(pW β1 β2 a0.Gq)⟩),(3,⟨3,true,p_35.2.flatMap eW⟩)]⟩) h (fun p_35 h => ?_) (fun k_36 h => ?_)
   ·refine AWP.seq ?_
    obtain ⟨l5_37,hl5_37,h⟩ := bindS h
    obtain ⟨y_38,hy_38,h⟩ := bindS h
    obtain ⟨ha_39,h⟩ := asrtS h
    obtain ⟨t4_40,ht4_40,h⟩ := letS h
    refine AWP.draw (s' := ⟨[(4,iW (IntKind.wrap .i64 (p_35.1 + y_38.1)))],[(5,⟨3,true,y_38.2.flatMap eW⟩),(2,⟨32,false,(pW β1 β2 a0.Gq)⟩),(3,⟨3,true,p_35.2.flatMap eW⟩)]⟩) mixed [⟨1,rW β4 a1 eW,none,[]⟩,⟨5,.ptr 2 0,none,[]⟩,⟨9,.own 3 1 0 p_35.2.length,none,[]⟩,⟨10,iW p_35.1,none,[]⟩,⟨84,iW p_35.1,some 0,[]⟩,⟨85,.agg (pW β1 β2 a0.Gq),some 1,[]⟩,⟨86,.own 3 1 0 p_35.2.length,some 2,[]⟩,⟨87,rW β4 a1 eW,some 3,[]⟩,⟨88,.ptr 2 (0 + 0),some 4,[]⟩,⟨89,rW β1 a0.Gq.Pq e45,some 5,[]⟩,⟨90,iW (a0.Gq.Pq.length : Int),some 6,[]⟩,⟨91,.own 5 1 0 l5_37.length,some 7,[]⟩,⟨92,iW y_38.1,some 8,[]⟩,⟨93,iW (IntKind.wrap .i64 (p_35.1 + y_38.1)),some 9,[]⟩,⟨4,iW (IntKind.wrap .i64 (p_35.1 + y_38.1)),some 10,[]⟩] [⟨[3],0,2,some (84,iW p_35.1),[]⟩,⟨[1],0,1,some (85,.agg (pW β1 β2 a0.Gq)),[]⟩,⟨[2],0,1,some (86,.own 3 1 0 p_35.2.length),[]⟩,⟨[0],0,2,some (87,rW β4 a1 eW),[]⟩,⟨[1],0,0,some (88,.ptr 2 (0 + 0)),[]⟩,⟨[8],0,0,some (89,rW β1 a0.Gq.Pq e45),[]⟩,⟨[9],0,2,some (90,iW (a0.Gq.Pq.length : Int)),[]⟩,⟨[10],0,0,some (91,.own 5 1 0 l5_37.length),[5]⟩,⟨[5,6,7,11],1,1,some (92,iW y_38.1),[]⟩,⟨[4,12],0,2,some (93,iW (IntKind.wrap .i64 (p_35.1 + y_38.1))),[]⟩,⟨[13],0,2,some (4,iW (IntKind.wrap .i64 (p_35.1 + y_38.1))),[]⟩] [7,8] [[(2,⟨32,false,(pW β1 β2 a0.Gq)⟩),(3,⟨3,true,p_35.2.flatMap eW⟩)],[(5,⟨3,true,l5_37.flatMap eW⟩),(2,⟨32,false,(pW β1 β2 a0.Gq)⟩),(3,⟨3,true,p_35.2.flatMap eW⟩)],[(5,⟨3,true,y_38.2.flatMap eW⟩),(2,⟨32,false,(pW β1 β2 a0.Gq)⟩),(3,⟨3,true,p_35.2.flatMap eW⟩)]] [[],[],[],[],[],[4],[4,5],[4,5,6],[1,2,3,4,5,6,7],[0,1,2,3,4,5,6,7,8],[0,1,2,3,4,5,6,7,8,9]] (by kernel_rfl) (by kernel_rfl) (BornL.ok (.o<| .o<| .o<| .o<| .b rfl rfl<| .b rfl rfl<| .b rfl rfl<| .b rfl rfl<| .b rfl rfl<| .b rfl rfl<| .b rfl rfl<| .b rfl rfl<| .b rfl rfl<| .b rfl rfl<| .b rfl rfl<| .n)) (BaseL.ok (.o rfl<| .o rfl<| .o rfl<| .o rfl<| .b<| .b<| .b<| .b<| .b<| .b<| .b<| .b<| .b<| .b<| .b<| .n)) rfl (by decide) (allLt rfl) (.pure rfl (fun H => .put (fun E hE => .move (l1 rfl) (.tmp (hE.at (k := 0) rfl))))<| .read rfl (.c (.put (fun E hE => .loadPA (l1 rfl) (.tmp (hE.at (k := 0) rfl)) agg32 rfl rfl rfl rfl)) (.c (.put (fun E hE => .loadPA (l1 rfl) (.tmp (hE.at (k := 0) rfl)) agg32 rfl rfl rfl rfl)) (.n)))<| .read rfl (.c (.put (fun E hE => .move (l1 rfl) (.tmp (hE.at (k := 0) rfl)))) (.c (.put (fun E hE => .move (l1 rfl) (.tmp (hE.at (k := 0) rfl)))) (.n)))<| .pure rfl (fun H => .put (fun E hE => .move (l1 rfl) (.tmp (hE.at (k := 0) rfl))))<| .read rfl (.c (.put (fun E hE => .fieldP (l1 rfl) (.tmp (hE.at (k := 0) rfl)) fld32_0)) (.n))<| .read rfl (.c (.put (fun E hE => .loadP (l1 rfl) (.tmp (hE.at (k := 0) rfl)) one22 rfl rfl rfl)) (.n))<| .pure rfl (fun H => .put (fun E hE => .lenRd (l1 rfl) (.tmp (hE.at (k := 0) rfl)) Try.underlying22))<| .turn rfl rfl rfl rfl rfl (.new (fun E hE => .mkS (enc := eW) (t := 5) (l1 rfl) (nm rfl) (.tmp (hE.at (k := 0) rfl)) (.tmp (hE.at (k := 0) rfl)) Try.underlying28 zero3 el3 rfl (encI_len .i64) (by decide) hl5_37) rfl)<| .turn rfl rfl rfl rfl rfl (.called (fun E hE => AStep.call (σ := fun _ => 5) (bw := true) (l1 rfl) (c82 (β1 := β1) (β2 := β2) (β3 := true) (β4 := β4) n (R24.mk a0.Gq.Pq a0.Gq.Bq) p_35.2 a1 l5_37 hy_38) (.cons (.tmp (hE.at (k := 0) rfl)) (.ren rfl) (.cons (.tmp (hE.at (k := 1) rfl)) (.lendRow rfl rfl (encI_len .i64) rfl) (.cons (.tmp (hE.at (k := 2) rfl)) (.ren rfl) (.cons (.tmp (hE.at (k := 3) rfl)) (.ren rfl) (.nil))))) (CallOk.mk' (.c rfl (.n)) rfl)) rfl rfl rfl)<| .pure rfl (fun H => .put (fun E hE => .add (l1 rfl) (.tmp (hE.at (k := 0) rfl)) (.tmp (hE.at (k := 1) rfl))))<| .pure rfl (fun H => .put (fun E hE => .assign (l1 rfl) (.tmp (hE.at (k := 0) rfl))))<| .nil _) (fun E hE => .c (DInv.at hE (k := 14) rfl rfl rfl)<| .n _) rfl ?_
    refine AWP.ret ?_
    obtain rfl := Option.some.inj h
    refine retJ (Res.vc (s' := ⟨[(4,iW t4_40)],[]⟩) (by subst ht4_40; exact VC.sub (.of rfl) (.n _)) ?_)
    refine Res.drop (H := []) rfl ?_
    exact Res.of rfl (.cons (.tmp rfl) (.nil)) rfl rfl
   ·refine AWP.vc (s' := ⟨[(1,rW β4 a1 eW),(2,.ptr 1 0),(5,.ptr 2 0),(9,.own 3 1 0 l3_4.length),(10,iW t10_8),(63,iW t63_9),(64,iW (0 : Int))],[(1,⟨58,false,(gW β1 β2 β3 a0.Gq a0.Path a0.Ln)⟩),(2,⟨32,false,(pW β1 β2 a0.Gq)⟩),(3,⟨3,true,l3_4.flatMap eW⟩)]⟩) (VC.sub (.of rfl) (.of rfl)) ?_
    refine AWP.loopM (S := fun x_26 : Int × Int × (List Int) => ⟨[(1,rW β4 a1 eW),(2,.ptr 1 0),(5,.ptr 2 0),(9,.own 3 1 0 x_26.2.2.length),(10,iW x_26.1),(63,iW t63_9),(64,iW x_26.2.1)],[(1,⟨58,false,(gW β1 β2 β3 a0.Gq a0.Path a0.Ln)⟩),(2,⟨32,false,(pW β1 β2 a0.Gq)⟩),(3,⟨3,true,x_26.2.2.flatMap eW⟩)]⟩) (x := (t10_8,(0 : Int),l3_4)) (fun nx_27 x_26 h => ?_) h
    unfold m65_L1 at h
    refine AWP.seq ?_
    refine AWP.rg (.cons (.lss (l1 rfl) (.t rfl) (.t rfl))<| ARun.nil _ _ _) ?_
    refine AWP.vc (s' := ⟨[(1,rW β4 a1 eW),(2,.ptr 1 0),(5,.ptr 2 0),(9,.own 3 1 0 x_26.2.2.length),(10,iW x_26.1),(63,iW t63_9),(64,iW x_26.2.1),(65,bW (decide (x_26.2.1 < t63_9)))],[(1,⟨58,false,(gW β1 β2 β3 a0.Gq a0.Path a0.Ln)⟩),(2,⟨32,false,(pW β1 β2 a0.Gq)⟩),(3,⟨3,true,x_26.2.2.flatMap eW⟩)]⟩) (VC.sub (.of rfl) (.of rfl)) ?_
    refine AWP.seq ?_
    refine AWP.cond (.t rfl) (fun hc => ?_) (fun hc => ?_)
    ·have h := iteT hc h
     refine AWP.skip ?_
     refine AWP.seq ?_
     refine AWP.block ?_
     refine AWP.seq ?_
     refine AWP.rg (.cons (.move (l1 rfl) (.t rfl))<| .cons (.assign (l1 rfl) (.t rfl))<| ARun.nil _ _ _) ?_
     refine AWP.vc (s' := ⟨[(1,rW β4 a1 eW),(2,.ptr 1 0),(5,.ptr 2 0),(9,.own 3 1 0 x_26.2.2.length),(10,iW x_26.1),(63,iW t63_9),(64,iW x_26.2.1),(11,iW x_26.2.1)],[(1,⟨58,false,(gW β1 β2 β3 a0.Gq a0.Path a0.Ln)⟩),(2,⟨32,false,(pW β1 β2 a0.Gq)⟩),(3,⟨3,true,x_26.2.2.flatMap eW⟩)]⟩) (VC.sub (.of rfl) (.of rfl)) ?_
     refine AWP.seq ?_
     obtain ⟨y_28,hy_28,h⟩ := bindS h
     refine AWP.rg (.cons (.fieldP (l1 rfl) (.t rfl) fld58_1)<| .cons (.loadP (l1 rfl) (.t rfl) one28 rfl rfl rfl)<| .cons (.move (l1 rfl) (.t rfl))<| .cons (.call0 (bw := false) (l1 rfl) (c91 (β1 := β3) n a0.Path x_26.2.1 hy_28) (.cons (.t rfl) (.ren rfl) (.cons (.t rfl) (.ren rfl) (.nil))) rfl)<| .cons (.not (l1 rfl) (.t rfl))<| ARun.nil _ _ _) ?_
     refine AWP.vc (s' := ⟨[(1,rW β4 a1 eW),(2,.ptr 1 0),(5,.ptr 2 0),(9,.own 3 1 0 x_26.2.2.length),(10,iW x_26.1),(63,iW t63_9),(64,iW x_26.2.1),(11,iW x_26.2.1),(71,bW (!y_28))],[(1,⟨58,false,(gW β1 β2 β3 a0.Gq a0.Path a0.Ln)⟩),(2,⟨32,false,(pW β1 β2 a0.Gq)⟩),(3,⟨3,true,x_26.2.2.flatMap eW⟩)]⟩) (VC.sub (.of rfl) (.of rfl)) ?_
     refine AWP.join' (S := fun p_32 : Int × (List Int) => ⟨[(1,rW β4 a1 eW),(2,.ptr 1 0),(5,.ptr 2 0),(9,.own 3 1 0 p_32.2.length),(10,iW p_32.1),(63,iW t63_9),(64,iW x_26.2.1)],[(1,⟨58,false,(gW β1 β2 β3 a0.Gq a0.Path a0.Ln)⟩),(2,⟨32,false,(pW β1 β2 a0.Gq)⟩),(3,⟨3,true,p_32.2.flatMap eW⟩)]⟩) h (fun p_32 h => ?_) (fun k_33 h => ?_)
     ·obtain ⟨t64_34,ht64_34,h⟩ := letS h
      refine AWP.rg (.cons (.add (l1 rfl) (.t rfl) (.const _ _ _))<| .cons (.move (l1 rfl) (.t rfl))<| ARun.nil _ _ _) ?_
      exact endJ (p_32.1,t64_34,p_32.2) h (by subst ht64_34; exact VC.sub (.of rfl) (.of rfl))
     ·refine AWP.cond (.t rfl) (fun hc => ?_) (fun hc => ?_)
      ·have h := iteT hc h
       refine AWP.seq ?_
       obtain ⟨l3_29,hl3_29,h⟩ := bindS h
       refine AWP.rg (.cons (.move (l1 rfl) (.t rfl))<| .cons (.move (l1 rfl) (.t rfl))<| .cons (.buildSlice (t := 4) (out := ([x_26.2.1] : List Int).flatMap eW) (l1 rfl) (nm rfl) (.cons (.t rfl) (by first | exact ⟨rfl,rfl⟩ | rfl) (.nil)) Try.underlying28 zero3 el3 (by decide) (by decide) rfl (still_all (encI_still .i64) _))<| .cons (.app (enc := eW) (l1 rfl) (nm rfl) (.t rfl) (Src.own (.t rfl) rfl (lendAll (encI_len .i64) _) (flatMap_length (encI_len .i64) _) (one_all (encI_one .i64) _) (.inl rfl)) Try.underlying28 ⟨_,Try.underlying28,by intro k hk; cases hk⟩ el3 rfl (encI_len .i64) rfl rfl (by decide) hl3_29)<| .cons (.assign (l1 rfl) (.t rfl))<| ARun.nil _ _ _) ?_
       refine AWP.vc (s' := ⟨[(1,rW β4 a1 eW),(2,.ptr 1 0),(5,.ptr 2 0),(9,.own 3 1 0 l3_29.length),(10,iW x_26.1),(63,iW t63_9),(64,iW x_26.2.1),(11,iW x_26.2.1)],[(3,⟨3,true,l3_29.flatMap eW⟩),(1,⟨58,false,(gW β1 β2 β3 a0.Gq a0.Path a0.Ln)⟩),(2,⟨32,false,(pW β1 β2 a0.Gq)⟩)]⟩) (VC.sub (.of rfl) (.of rfl)) ?_
       obtain ⟨y_30,hy_30,h⟩ := bindS h
       obtain ⟨t10_31,ht10_31,h⟩ := letS h
       refine AWP.rg (.cons (.move (l1 rfl) (.t rfl))<| .cons (.move (l1 rfl) (.t rfl))<| .cons (.move (l1 rfl) (.t rfl))<| .cons (.indexRd (enc := eW) (l1 rfl) (.t rfl) (.t rfl) Try.underlying28 sz3 (encI_len .i64) rfl hy_30)<| .cons (.loadR (v := iW y_30) (l1 rfl) (.t rfl) one3 rfl)<| .cons (.mul (l1 rfl) (.const _ _ _) (.t rfl))<| .cons (.sub (l1 rfl) (.t rfl) (.t rfl))<| .cons (.assign (l1 rfl) (.t rfl))<| ARun.nil _ _ _) ?_
       exact endJ (t10_31,l3_29) h (by subst ht10_31; exact VC.sub (.of rfl) (.of rfl))
      ·have h := iteF hc h
       refine AWP.skip ?_
       exact endJ (x_26.1,x_26.2.2) h (VC.sub (.of rfl) (.of rfl))
    ·have h := iteF hc h
     refine AWP.exit ?_
     exact endJ (x_26.1,x_26.2.2) h (VC.sub (.of rfl) (.of rfl))
theorem c27 {β1 : Bool} {β2 : Bool} {β3 : Bool} {β4 : Bool} (n : Nat) (a0 : R57) (a1 : (List Int)) {r : Bool} (h : m27 n a0 a1 = some r) : Spec Try.prog 27 [] [.agg (gW β1 β2 β3 a0.Gq a0.Path a0.Ln),rW β4 a1 eW] [] (bW r) [] := by
 refine Spec.of (fn := Try.f27) Try.func27 Try.ntmps27 rfl rfl (le1 rfl) (fun w0 Zs Zb T0 ι0 => ?_)
 unfold m27 at h
 refine AWP.seq ?_
 refine AWP.rg (.cons (.box (t := 1) (n := 4) (l1 rfl) (nm rfl) (.t rfl) (by first | exact ⟨rfl,rfl⟩ | rfl) rfl)<| .cons (.assign (l1 rfl) (.const _ _ _))<| ARun.nil _ _ _) ?_
 refine AWP.vc (s' := ⟨[(1,rW β4 a1 eW),(2,.ptr 1 0)],[(1,⟨58,false,(gW β1 β2 β3 a0.Gq a0.Path a0.Ln)⟩)]⟩) (VC.sub (.of rfl) (.of rfl)) ?_
 refine AWP.seq ?_
 obtain ⟨y_1,hy_1,h⟩ := bindS h
 obtain ⟨y_2,hy_2,h⟩ := bindS h
 obtain ⟨y_3,hy_3,h⟩ := bindS h
 refine AWP.draw (s' := ⟨[(4,bW ((y_1 && y_2) && (decide (a0.Ln ≤ y_3))))],[(1,⟨58,false,(gW β1 β2 β3 a0.Gq a0.Path a0.Ln)⟩)]⟩) mixed [⟨1,rW β4 a1 eW,none,[]⟩,⟨2,.ptr 1 0,none,[]⟩,⟨5,.agg (gW β1 β2 β3 a0.Gq a0.Path a0.Ln),some 0,[]⟩,⟨6,bW y_1,some 1,[]⟩,⟨7,bW y_1,some 2,[]⟩,⟨8,.gd y_1 (.ptr 1 (0 + 0)),some 3,[]⟩,⟨9,.gd y_1 (.agg (pW β1 β2 a0.Gq)),some 4,[]⟩,⟨10,.gd y_1 (rW β4 a1 eW),some 5,[]⟩,⟨11,.gd y_1 (bW y_2),some 6,[]⟩,⟨12,bW (y_1 && y_2),some 7,[]⟩,⟨13,bW (y_1 && y_2),some 8,[]⟩,⟨14,.gd (y_1 && y_2) (.ptr 1 (0 + 3)),some 9,[]⟩,⟨15,.gd (y_1 && y_2) (iW a0.Ln),some 10,[]⟩,⟨16,.gd (y_1 && y_2) (.agg (gW β1 β2 β3 a0.Gq a0.Path a0.Ln)),some 11,[]⟩,⟨17,.gd (y_1 && y_2) (rW β4 a1 eW),some 12,[]⟩,⟨18,.gd (y_1 && y_2) (iW y_3),some 13,[]⟩,⟨19,.gd (y_1 && y_2) (bW (decide (a0.Ln ≤ y_3))),some 14,[]⟩,⟨20,bW ((y_1 && y_2) && (decide (a0.Ln ≤ y_3))),some 15,[]⟩,⟨4,bW ((y_1 && y_2) && (decide (a0.Ln ≤ y_3))),some 16,[]⟩] [⟨[1],0,0,some (5,.agg (gW β1 β2 β3 a0.Gq a0.Path a0.Ln)),[]⟩,⟨[2],0,0,some (6,bW y_1),[]⟩,⟨[3],0,0,some (7,bW y_1),[]⟩,⟨[4,1],0,0,some (8,.gd y_1 (.ptr 1 (0 + 0))),[]⟩,⟨[4,5],0,0,some (9,.gd y_1 (.agg (pW β1 β2 a0.Gq))),[]⟩,⟨[4,0],0,0,some (10,.gd y_1 (rW β4 a1 eW)),[]⟩,⟨[4,6,7],0,0,some (11,.gd y_1 (bW y_2)),[]⟩,⟨[4,8],0,0,some (12,bW (y_1 && y_2)),[]⟩,⟨[9],0,0,some (13,bW (y_1 && y_2)),[]⟩,⟨[10,1],0,0,some (14,.gd (y_1 && y_2) (.ptr 1 (0 + 3))),[]⟩,⟨[10,11],0,0,some (15,.gd (y_1 && y_2) (iW a0.Ln)),[]⟩,⟨[10,1],0,0,some (16,.gd (y_1 && y_2) (.agg (gW β1 β2 β3 a0.Gq a0.Path a0.Ln))),[]⟩,⟨[10,0],0,0,some (17,.gd (y_1 && y_2) (rW β4 a1 eW)),[]⟩,⟨[10,13,14],0,0,some (18,.gd (y_1 && y_2) (iW y_3)),[]⟩,⟨[10,12,15],0,0,some (19,.gd (y_1 && y_2) (bW (decide (a0.Ln ≤ y_3)))),[]⟩,⟨[10,16],0,0,some (20,bW ((y_1 && y_2) && (decide (a0.Ln ≤ y_3)))),[]⟩,⟨[17],0,0,some (4,bW ((y_1 && y_2) && (decide (a0.Ln ≤ y_3)))),[]⟩] [] [[(1,⟨58,false,(gW β1 β2 β3 a0.Gq a0.Path a0.Ln)⟩)]] [[],[0],[0,1],[0,1,2],[0,1,2,3],[0,1,2],[0,1,2,3,4,5],[0,1,2,3,4,5,6],[0,1,2,3,4,5,6,7],[0,1,2,3,4,5,6,7,8],[0,1,2,3,4,5,6,7,8,9],[0,1,2,3,4,5,6,7,8],[0,1,2,3,4,5,6,7,8],[0,1,2,3,4,5,6,7,8,11,12],[0,1,2,3,4,5,6,7,8,9,10,11,12,13],[0,1,2,3,4,5,6,7,8,9,10,11,12,13,14],[0,1,2,3,4,5,6,7,8,9,10,11,12,13,14,15]] (by kernel_rfl) (by kernel_rfl) (BornL.ok (.o<| .o<| .b rfl rfl<| .b rfl rfl<| .b rfl rfl<| .b rfl rfl<| .b rfl rfl<| .b rfl rfl<| .b rfl rfl<| .b rfl rfl<| .b rfl rfl<| .b rfl rfl<| .b rfl rfl<| .b rfl rfl<| .b rfl rfl<| .b rfl rfl<| .b rfl rfl<| .b rfl rfl<| .b rfl rfl<| .n)) (BaseL.ok (.o rfl<| .o rfl<| .b<| .b<| .b<| .b<| .b<| .b<| .b<| .b<| .b<| .b<| .b<| .b<| .b<| .b<| .b<| .b<| .b<| .n)) rfl (by decide) (allLt rfl) (.read rfl (.c (.put (fun E hE => .loadPA (l1 rfl) (.tmp (hE.at (k := 0) rfl)) agg58 rfl rfl rfl rfl)) .n)<| .pure rfl (fun H => .put (fun E hE => .call0 (bw := false) (l1 rfl) (c61 (β1 := β1) (β2 := β2) (β3 := β3) n (R57.mk (R24.mk a0.Gq.Pq a0.Gq.Bq) a0.Path a0.Ln) hy_1) (.cons (.tmp (hE.at (k := 0) rfl)) (.ren rfl) (.nil)) rfl))<| .pure rfl (fun H => .put (fun E hE => .move (l1 rfl) (.tmp (hE.at (k := 0) rfl))))<| .read rfl (.c (.gput (b := y_1) (want := true) (j := 2) (dj := 7) rfl (l1 rfl) (l1 rfl) (fun E hE => hE.at (k := 0) rfl) (fun hg E hE => .fieldP (l1 rfl) (.tmp (hE.at (k := 1) rfl)) fld58_0)) .n)<| .read rfl (.c (.gput (b := y_1) (want := true) (j := 2) (dj := 7) rfl (l1 rfl) (l1 rfl) (fun E hE => hE.at (k := 0) rfl) (fun hg E hE => .loadPA (l1 rfl) (.gd hg (.tmp (hE.at (k := 1) rfl))) agg32 rfl rfl rfl rfl)) .n)<| .pure rfl (fun H => .gput (b := y_1) (want := true) (j := 2) (dj := 7) rfl (l1 rfl) (l1 rfl) (fun E hE => hE.at (k := 0) rfl) (fun hg E hE => .move (l1 rfl) (.tmp (hE.at (k := 1) rfl))))<| .pure rfl (fun H => .gput (b := y_1) (want := true) (j := 2) (dj := 7) rfl (l1 rfl) (l1 rfl) (fun E hE => hE.at (k := 0) rfl) (fun hg E hE => .call0 (bw := false) (l1 rfl) (c48 (β1 := β1) (β2 := β2) (β3 := β4) n (R24.mk a0.Gq.Pq a0.Gq.Bq) a1 (gdB hy_2 hg)) (.cons (.gd hg (.tmp (hE.at (k := 1) rfl))) (.ren rfl) (.cons (.gd hg (.tmp (hE.at (k := 2) rfl))) (.ren rfl) (.nil))) rfl))<| .pure rfl (fun H => .put (fun E hE => .pickAnd (l1 rfl) (.tmp (hE.at (k := 0) rfl)) (.tmp (hE.at (k := 1) rfl)) (.const _ _ _)))<| .pure rfl (fun H => .put (fun E hE => .move (l1 rfl) (.tmp (hE.at (k := 0) rfl))))<| .read rfl (.c (.gput (b := (y_1 && y_2)) (want := true) (j := 8) (dj := 13) rfl (l1 rfl) (l1 rfl) (fun E hE => hE.at (k := 0) rfl) (fun hg E hE => .fieldP (l1 rfl) (.tmp (hE.at (k := 1) rfl)) fld58_2)) .n)<| .read rfl (.c (.gput (b := (y_1 && y_2)) (want := true) (j := 8) (dj := 13) rfl (l1 rfl) (l1 rfl) (fun E hE => hE.at (k := 0) rfl) (fun hg E hE => .loadP (l1 rfl) (.gd hg (.tmp (hE.at (k := 1) rfl))) one3 rfl rfl rfl)) .n)<| .read rfl (.c (.gput (b := (y_1 && y_2)) (want := true) (j := 8) (dj := 13) rfl (l1 rfl) (l1 rfl) (fun E hE => hE.at (k := 0) rfl) (fun hg E hE => .loadPA (l1 rfl) (.tmp (hE.at (k := 1) rfl)) agg58 rfl rfl rfl rfl)) .n)<| .pure rfl (fun H => .gput (b := (y_1 && y_2)) (want := true) (j := 8) (dj := 13) rfl (l1 rfl) (l1 rfl) (fun E hE => hE.at (k := 0) rfl) (fun hg E hE => .move (l1 rfl) (.tmp (hE.at (k := 1) rfl))))<| .pure rfl (fun H => .gput (b := (y_1 && y_2)) (want := true) (j := 8) (dj := 13) rfl (l1 rfl) (l1 rfl) (fun E hE => hE.at (k := 0) rfl) (fun hg E hE => .call0 (bw := false) (l1 rfl) (c65 (β1 := β1) (β2 := β2) (β3 := β3) (β4 := β4) n (R57.mk (R24.mk a0.Gq.Pq a0.Gq.Bq) a0.Path a0.Ln) a1 (gdB hy_3 hg)) (.cons (.gd hg (.tmp (hE.at (k := 1) rfl))) (.ren rfl) (.cons (.gd hg (.tmp (hE.at (k := 2) rfl))) (.ren rfl) (.nil))) rfl))<| .pure rfl (fun H => .gput (b := (y_1 && y_2)) (want := true) (j := 8) (dj := 13) rfl (l1 rfl) (l1 rfl) (fun E hE => hE.at (k := 0) rfl) (fun hg E hE => .leq (l1 rfl) (.gd hg (.tmp (hE.at (k := 1) rfl))) (.gd hg (.tmp (hE.at (k := 2) rfl)))))<| .pure rfl (fun H => .put (fun E hE => .pickAnd (l1 rfl) (.tmp (hE.at (k := 0) rfl)) (.tmp (hE.at (k := 1) rfl)) (.const _ _ _)))<| .pure rfl (fun H => .put (fun E hE => .assign (l1 rfl) (.tmp (hE.at (k := 0) rfl))))<| .nil _) (fun E hE => .c (DInv.at hE (k := 18) rfl rfl rfl)<| .n _) rfl ?_
 refine AWP.ret ?_
 obtain rfl := Option.some.inj h
 refine retJ (Res.vc (s' := ⟨[(4,bW ((y_1 && y_2) && (decide (a0.Ln ≤ y_3))))],[]⟩) (VC.sub (.of rfl) (.n _)) ?_)
 refine Res.drop (H := []) rfl ?_
 exact Res.of rfl (.cons (.tmp rfl) (.nil)) rfl rfl
theorem c50 {β1 : Bool} {β2 : Bool} {β3 : Bool} (n : Nat) (a0 : R24) (a1 : (List Int)) {r : Bool} (h : m50 n a0 a1 = some r) : Spec Try.prog 50 [] [.agg (pW β1 β2 a0),rW β3 a1 eW] [] (bW r) [] := by
 refine Spec.of (fn := Try.f50) Try.func50 Try.ntmps50 rfl rfl (le1 rfl) (fun w0 Zs Zb T0 ι0 => ?_)
 unfold m50 at h
 refine AWP.seq ?_
 refine AWP.rg (.cons (.box (t := 1) (n := 2) (l1 rfl) (nm rfl) (.t rfl) (by first | exact ⟨rfl,rfl⟩ | rfl) rfl)<| .cons (.assign (l1 rfl) (.const _ _ _))<| ARun.nil _ _ _) ?_
 refine AWP.vc (s' := ⟨[(1,rW β3 a1 eW),(2,.ptr 1 0)],[(1,⟨25,false,(pW β1 β2 a0)⟩)]⟩) (VC.sub (.of rfl) (.of rfl)) ?_
 refine AWP.seq ?_
 refine AWP.seq ?_
 refine AWP.rg (.cons (.assign (l1 rfl) (.const _ _ _))<| ARun.nil _ _ _) ?_
 refine AWP.vc (s' := ⟨[(1,rW β3 a1 eW),(2,.ptr 1 0),(5,iW (0 : Int))],[(1,⟨25,false,(pW β1 β2 a0)⟩)]⟩) (VC.sub (.of rfl) (.of rfl)) ?_
 refine AWP.joinB' (S := fun p_10 : Unit => ⟨[(1,rW β3 a1 eW),(2,.ptr 1 0)],[(1,⟨25,false,(pW β1 β2 a0)⟩)]⟩) h (fun p_10 h => ?_) (fun k_11 h => ?_)
 ·refine AWP.seq ?_
  refine AWP.rg (.cons (.move (l1 rfl) (.t rfl))<| .cons (.lenRd (l1 rfl) (.t rfl) Try.underlying28)<| .cons (.fieldP (l1 rfl) (.t rfl) fld25_0)<| .cons (.loadP (l1 rfl) (.t rfl) one22 rfl rfl rfl)<| .cons (.lenRd (l1 rfl) (.t rfl) Try.underlying22)<| .cons (.eql (l1 rfl) (.t rfl) (.t rfl))<| .cons (.assign (l1 rfl) (.t rfl))<| ARun.nil _ _ _) ?_
  refine AWP.ret ?_
  obtain rfl := Option.some.inj h
  refine retJ (Res.vc (s' := ⟨[(4,bW (decide ((a1.length : Int) = (a0.Pq.length : Int))))],[]⟩) (VC.sub (.of rfl) (.n _)) ?_)
  refine Res.drop (H := []) rfl ?_
  exact Res.of rfl (.cons (.tmp rfl) (.nil)) rfl rfl
 ·refine AWP.vc (s' := ⟨[(1,rW β3 a1 eW),(2,.ptr 1 0),(5,iW (0 : Int))],[(1,⟨25,false,(pW β1 β2 a0)⟩)]⟩) (VC.sub (.of rfl) (.of rfl)) ?_
  refine AWP.loopM (S := fun x_5 : Int => ⟨[(1,rW β3 a1 eW),(2,.ptr 1 0),(5,iW x_5)],[(1,⟨25,false,(pW β1 β2 a0)⟩)]⟩) (x := (0 : Int)) (fun nx_6 x_5 h => ?_) h
  unfold m50_L1 at h
  refine AWP.seq ?_
  refine AWP.seq ?_
  refine AWP.rg (.cons (.move (l1 rfl) (.t rfl))<| .cons (.move (l1 rfl) (.t rfl))<| .cons (.lenRd (l1 rfl) (.t rfl) Try.underlying28)<| .cons (.lss (l1 rfl) (.t rfl) (.t rfl))<| ARun.nil _ _ _) ?_
  refine AWP.vc (s' := ⟨[(1,rW β3 a1 eW),(2,.ptr 1 0),(5,iW x_5),(9,bW (decide (x_5 < (a1.length : Int))))],[(1,⟨25,false,(pW β1 β2 a0)⟩)]⟩) (VC.sub (.of rfl) (.of rfl)) ?_
  refine AWP.cond (.t rfl) (fun hc => ?_) (fun hc => ?_)
  ·have h := iteT hc h
   refine AWP.skip ?_
   refine AWP.seq ?_
   refine AWP.block ?_
   refine AWP.seq ?_
   obtain ⟨y_7,hy_7,h⟩ := bindS h
   obtain ⟨y_8,hy_8,h⟩ := bindS h
   refine AWP.rg (.cons (.move (l1 rfl) (.t rfl))<| .cons (.move (l1 rfl) (.t rfl))<| .cons (.indexRd (enc := eW) (l1 rfl) (.t rfl) (.t rfl) Try.underlying28 sz3 (encI_len .i64) rfl hy_7)<| .cons (.loadR (v := iW y_7) (l1 rfl) (.t rfl) one3 rfl)<| .cons (.lss (l1 rfl) (.t rfl) (.const _ _ _))<| .cons (.move (l1 rfl) (.t rfl))<| .guard (j := 5) (dj := 17) rfl (l1 rfl) rfl (l1 rfl) (fun hg => .move (l1 rfl) (.t rfl))<| .guard (j := 5) (dj := 17) rfl (l1 rfl) rfl (l1 rfl) (fun hg => .move (l1 rfl) (.t rfl))<| .guard (j := 5) (dj := 17) rfl (l1 rfl) rfl (l1 rfl) (fun hg => .indexRd (enc := eW) (l1 rfl) (.gd hg (.t rfl)) (.gd hg (.t rfl)) Try.underlying28 sz3 (encI_len .i64) rfl (gdB hy_8 hg))<| .guard (j := 5) (dj := 17) rfl (l1 rfl) rfl (l1 rfl) (fun hg => .loadR (v := iW y_8) (l1 rfl) (.gd hg (.t rfl)) one3 rfl)<| .guard (j := 5) (dj := 17) rfl (l1 rfl) rfl (l1 rfl) (fun hg => .gtr (l1 rfl) (.gd hg (.t rfl)) (.const _ _ _))<| .cons (.pickOr (l1 rfl) (.t rfl) (.const _ _ _) (.t rfl))<| ARun.nil _ _ _) ?_
   refine AWP.vc (s' := ⟨[(1,rW β3 a1 eW),(2,.ptr 1 0),(5,iW x_5),(23,bW ((decide (y_7 < (-20000 : Int))) || (decide ((20000 : Int) < y_8))))],[(1,⟨25,false,(pW β1 β2 a0)⟩)]⟩) (VC.sub (.of rfl) (.of rfl)) ?_
   refine AWP.cond (.t rfl) (fun hc => ?_) (fun hc => ?_)
   ·have h := iteT hc h
    refine AWP.seq ?_
    refine AWP.rg (.cons (.assign (l1 rfl) (.const _ _ _))<| ARun.nil _ _ _) ?_
    refine AWP.ret ?_
    obtain rfl := Option.some.inj h
    refine retJ (Res.vc (s' := ⟨[(4,bW false)],[]⟩) (VC.sub (.of rfl) (.n _)) ?_)
    refine Res.drop (H := []) rfl ?_
    exact Res.of rfl (.cons (.tmp rfl) (.nil)) rfl rfl
   ·have h := iteF hc h
    refine AWP.skip ?_
    obtain ⟨t5_9,ht5_9,h⟩ := letS h
    refine AWP.rg (.cons (.move (l1 rfl) (.t rfl))<| .cons (.add (l1 rfl) (.t rfl) (.const _ _ _))<| .cons (.assign (l1 rfl) (.t rfl))<| ARun.nil _ _ _) ?_
    exact endJ t5_9 h (by subst ht5_9; exact VC.sub (.of rfl) (.of rfl))
  ·have h := iteF hc h
   refine AWP.exit ?_
   exact endJ () h (VC.sub (.of rfl) (.of rfl))
theorem c36 (n : Nat) (a0 : R45) (a1 : R45) {r : Int} (h : m36 n a0 a1 = some r) : Spec Try.prog 36 [] [.agg [iW a0.X,iW a0.Y],.agg [iW a1.X,iW a1.Y]] [] (iW r) [] := by
 refine Spec.of (fn := Try.f36) Try.func36 Try.ntmps36 rfl rfl (le1 rfl) (fun w0 Zs Zb T0 ι0 => ?_)
 unfold m36 at h
 refine AWP.seq ?_
 refine AWP.rg (.cons (.box (t := 1) (n := 2) (l1 rfl) (nm rfl) (.t rfl) (by first | exact ⟨rfl,rfl⟩ | rfl) rfl)<| .cons (.box (t := 2) (n := 2) (l1 rfl) (nm rfl) (.t rfl) (by first | exact ⟨rfl,rfl⟩ | rfl) rfl)<| .cons (.assign (l1 rfl) (.const _ _ _))<| ARun.nil _ _ _) ?_
 refine AWP.vc (s' := ⟨[(2,.ptr 1 0),(3,.ptr 2 0)],[(2,⟨46,false,[iW a1.X,iW a1.Y]⟩),(1,⟨46,false,[iW a0.X,iW a0.Y]⟩)]⟩) (VC.sub (.of rfl) (.of rfl)) ?_
 refine AWP.seq ?_
 obtain ⟨t4_1,ht4_1,h⟩ := letS h
 refine AWP.rg (.cons (.fieldP (l1 rfl) (.t rfl) fld46_0)<| .cons (.loadP (l1 rfl) (.t rfl) one3 rfl rfl rfl)<| .cons (.fieldP (l1 rfl) (.t rfl) fld46_0)<| .cons (.loadP (l1 rfl) (.t rfl) one3 rfl rfl rfl)<| .cons (.sub (l1 rfl) (.t rfl) (.t rfl))<| .cons (.fieldP (l1 rfl) (.t rfl) fld46_0)<| .cons (.loadP (l1 rfl) (.t rfl) one3 rfl rfl rfl)<| .cons (.fieldP (l1 rfl) (.t rfl) fld46_0)<| .cons (.loadP (l1 rfl) (.t rfl) one3 rfl rfl rfl)<| .cons (.sub (l1 rfl) (.t rfl) (.t rfl))<| .cons (.fieldP (l1 rfl) (.t rfl) fld46_1)<| .cons (.loadP (l1 rfl) (.t rfl) one3 rfl rfl rfl)<| .cons (.fieldP (l1 rfl) (.t rfl) fld46_1)<| .cons (.loadP (l1 rfl) (.t rfl) one3 rfl rfl rfl)<| .cons (.sub (l1 rfl) (.t rfl) (.t rfl))<| .cons (.fieldP (l1 rfl) (.t rfl) fld46_1)<| .cons (.loadP (l1 rfl) (.t rfl) one3 rfl rfl rfl)<| .cons (.fieldP (l1 rfl) (.t rfl) fld46_1)<| .cons (.loadP (l1 rfl) (.t rfl) one3 rfl rfl rfl)<| .cons (.sub (l1 rfl) (.t rfl) (.t rfl))<| .cons (.max4 (l1 rfl) (.t rfl) (.t rfl) (.t rfl) (.t rfl))<| .cons (.assign (l1 rfl) (.t rfl))<| ARun.nil _ _ _) ?_
 refine AWP.ret ?_
 obtain rfl := Option.some.inj h
 refine retJ (Res.vc (s' := ⟨[(4,iW t4_1)],[]⟩) (by subst ht4_1; exact VC.sub (.of rfl) (.n _)) ?_)
 refine Res.drop (H := []) rfl ?_
 exact Res.of rfl (.cons (.tmp rfl) (.nil)) rfl rfl
theorem c53 {β1 : Bool} {β2 : Bool} {β3 : Bool} (n : Nat) (a0 : R24) (a1 : (List Int)) {r : Int} (h : m53 n a0 a1 = some r) : Spec Try.prog 53 [] [.agg (pW β1 β2 a0),rW β3 a1 eW] [] (iW r) [] := by
 refine Spec.of (fn := Try.f53) Try.func53 Try.ntmps53 rfl rfl (le1 rfl) (fun w0 Zs Zb T0 ι0 => ?_)
 unfold m53 at h
 refine AWP.seq ?_
 refine AWP.rg (.cons (.box (t := 1) (n := 2) (l1 rfl) (nm rfl) (.t rfl) (by first | exact ⟨rfl,rfl⟩ | rfl) rfl)<| .cons (.assign (l1 rfl) (.const _ _ _))<| ARun.nil _ _ _) ?_
 refine AWP.vc (s' := ⟨[(1,rW β3 a1 eW),(2,.ptr 1 0)],[(1,⟨25,false,(pW β1 β2 a0)⟩)]⟩) (VC.sub (.of rfl) (.of rfl)) ?_
 refine AWP.seq ?_
 refine AWP.rg (.cons (.assign (l1 rfl) (.const _ _ _))<| ARun.nil _ _ _) ?_
 refine AWP.vc (s' := ⟨[(1,rW β3 a1 eW),(2,.ptr 1 0),(5,iW (0 : Int))],[(1,⟨25,false,(pW β1 β2 a0)⟩)]⟩) (VC.sub (.of rfl) (.of rfl)) ?_
 refine AWP.seq ?_
 refine AWP.seq ?_
 refine AWP.rg (.cons (.assign (l1 rfl) (.const _ _ _))<| ARun.nil _ _ _) ?_
 refine AWP.vc (s' := ⟨[(1,rW β3 a1 eW),(2,.ptr 1 0),(5,iW (0 : Int)),(6,iW (1 : Int))],[(1,⟨25,false,(pW β1 β2 a0)⟩)]⟩) (VC.sub (.of rfl) (.of rfl)) ?_
 refine AWP.joinB' (S := fun p_18 : Int => ⟨[(5,iW p_18)],[]⟩) h (fun p_18 h => ?_) (fun k_19 h => ?_)
 ·refine AWP.seq ?_
  refine AWP.rg (.cons (.move (l1 rfl) (.t rfl))<| .cons (.assign (l1 rfl) (.t rfl))<| ARun.nil _ _ _) ?_
  refine AWP.ret ?_
  obtain rfl := Option.some.inj h
  refine retJ (Res.vc (s' := ⟨[(4,iW p_18)],[]⟩) (VC.sub (.of rfl) (.n _)) ?_)
  refine Res.drop (H := []) rfl ?_
  exact Res.of rfl (.cons (.tmp rfl) (.nil)) rfl rfl
 ·refine AWP.vc (s' := ⟨[(1,rW β3 a1 eW),(2,.ptr 1 0),(5,iW (0 : Int)),(6,iW (1 : Int))],[(1,⟨25,false,(pW β1 β2 a0)⟩)]⟩) (VC.sub (.of rfl) (.of rfl)) ?_
  refine AWP.loopM (S := fun x_9 : Int × Int => ⟨[(1,rW β3 a1 eW),(2,.ptr 1 0),(5,iW x_9.1),(6,iW x_9.2)],[(1,⟨25,false,(pW β1 β2 a0)⟩)]⟩) (x := ((0 : Int),(1 : Int))) (fun nx_10 x_9 h => ?_) h
  unfold m53_L1 at h
  refine AWP.seq ?_
  refine AWP.seq ?_
  refine AWP.rg (.cons (.move (l1 rfl) (.t rfl))<| .cons (.move (l1 rfl) (.t rfl))<| .cons (.lenRd (l1 rfl) (.t rfl) Try.underlying28)<| .cons (.lss (l1 rfl) (.t rfl) (.t rfl))<| ARun.nil _ _ _) ?_
  refine AWP.vc (s' := ⟨[(1,rW β3 a1 eW),(2,.ptr 1 0),(5,iW x_9.1),(6,iW x_9.2),(10,bW (decide (x_9.2 < (a1.length : Int))))],[(1,⟨25,false,(pW β1 β2 a0)⟩)]⟩) (VC.sub (.of rfl) (.of rfl)) ?_
  refine AWP.cond (.t rfl) (fun hc => ?_) (fun hc => ?_)
  ·have h := iteT hc h
   refine AWP.skip ?_
   refine AWP.seq ?_
   refine AWP.block ?_
   obtain ⟨y_11,hy_11,h⟩ := bindS h
   obtain ⟨y_12,hy_12,h⟩ := bindS h
   obtain ⟨y_13,hy_13,h⟩ := bindS h
   obtain ⟨y_14,hy_14,h⟩ := bindS h
   obtain ⟨y_15,hy_15,h⟩ := bindS h
   obtain ⟨t5_16,ht5_16,h⟩ := letS h
   refine AWP.draw (s' := ⟨[(1,rW β3 a1 eW),(2,.ptr 1 0),(5,iW (IntKind.wrap .i64 (x_9.1 + y_15))),(6,iW x_9.2)],[(1,⟨25,false,(pW β1 β2 a0)⟩)]⟩) mixed [⟨1,rW β3 a1 eW,none,[]⟩,⟨2,.ptr 1 0,none,[]⟩,⟨5,iW x_9.1,none,[20]⟩,⟨6,iW x_9.2,none,[]⟩,⟨10,bW (decide (x_9.2 < (a1.length : Int))),none,[]⟩,⟨13,iW x_9.1,some 0,[]⟩,⟨14,.ptr 1 (0 + 0),some 1,[]⟩,⟨15,rW β1 a0.Pq e45,some 2,[]⟩,⟨16,rW β3 a1 eW,some 3,[]⟩,⟨17,iW x_9.2,some 4,[]⟩,⟨18,iW (IntKind.wrap .i64 (x_9.2 - (1 : Int))),some 5,[]⟩,⟨19,.rptr β3 [iW y_11],some 6,[]⟩,⟨20,iW y_11,some 7,[]⟩,⟨21,.rptr β1 [iW y_12.X,iW y_12.Y],some 8,[]⟩,⟨22,.agg [iW y_12.X,iW y_12.Y],some 9,[]⟩,⟨23,.ptr 1 (0 + 0),some 10,[]⟩,⟨24,rW β1 a0.Pq e45,some 11,[]⟩,⟨25,rW β3 a1 eW,some 12,[]⟩,⟨26,iW x_9.2,some 13,[]⟩,⟨27,.rptr β3 [iW y_13],some 14,[]⟩,⟨28,iW y_13,some 15,[]⟩,⟨29,.rptr β1 [iW y_14.X,iW y_14.Y],some 16,[]⟩,⟨30,.agg [iW y_14.X,iW y_14.Y],some 17,[]⟩,⟨31,iW y_15,some 18,[]⟩,⟨32,iW (IntKind.wrap .i64 (x_9.1 + y_15)),some 19,[]⟩,⟨5,iW (IntKind.wrap .i64 (x_9.1 + y_15)),some 20,[]⟩] [⟨[2],0,0,some (13,iW x_9.1),[]⟩,⟨[1],0,0,some (14,.ptr 1 (0 + 0)),[]⟩,⟨[6],0,0,some (15,rW β1 a0.Pq e45),[]⟩,⟨[0],0,0,some (16,rW β3 a1 eW),[]⟩,⟨[3],0,0,some (17,iW x_9.2),[]⟩,⟨[9],0,0,some (18,iW (IntKind.wrap .i64 (x_9.2 - (1 : Int)))),[]⟩,⟨[8,10],0,0,some (19,.rptr β3 [iW y_11]),[]⟩,⟨[11],0,0,some (20,iW y_11),[]⟩,⟨[7,12],0,0,some (21,.rptr β1 [iW y_12.X,iW y_12.Y]),[]⟩,⟨[13],0,0,some (22,.agg [iW y_12.X,iW y_12.Y]),[]⟩,⟨[1],0,0,some (23,.ptr 1 (0 + 0)),[]⟩,⟨[15],0,0,some (24,rW β1 a0.Pq e45),[]⟩,⟨[0],0,0,some (25,rW β3 a1 eW),[]⟩,⟨[3],0,0,some (26,iW x_9.2),[]⟩,⟨[17,18],0,0,some (27,.rptr β3 [iW y_13]),[]⟩,⟨[19],0,0,some (28,iW y_13),[]⟩,⟨[16,20],0,0,some (29,.rptr β1 [iW y_14.X,iW y_14.Y]),[]⟩,⟨[21],0,0,some (30,.agg [iW y_14.X,iW y_14.Y]),[]⟩,⟨[14,22],0,0,some (31,iW y_15),[]⟩,⟨[5,23],0,0,some (32,iW (IntKind.wrap .i64 (x_9.1 + y_15))),[]⟩,⟨[24],0,0,some (5,iW (IntKind.wrap .i64 (x_9.1 + y_15))),[]⟩] [] [[(1,⟨25,false,(pW β1 β2 a0)⟩)]] [[],[],[1],[],[],[4],[3,4,5],[3,4,5,6],[1,2,3,4,5,6,7],[1,2,3,4,5,6,7,8],[],[10],[],[],[12,13],[12,13,14],[10,11,12,13,14,15],[10,11,12,13,14,15,16],[1,2,3,4,5,6,7,8,9,10,11,12,13,14,15,16,17],[0,1,2,3,4,5,6,7,8,9,10,11,12,13,14,15,16,17,18],[0,1,2,3,4,5,6,7,8,9,10,11,12,13,14,15,16,17,18,19]] (by kernel_rfl) (by kernel_rfl) (BornL.ok (.o<| .o<| .o<| .o<| .o<| .b rfl rfl<| .b rfl rfl<| .b rfl rfl<| .b rfl rfl<| .b rfl rfl<| .b rfl rfl<| .b rfl rfl<| .b rfl rfl<| .b rfl rfl<| .b rfl rfl<| .b rfl rfl<| .b rfl rfl<| .b rfl rfl<| .b rfl rfl<| .b rfl rfl<| .b rfl rfl<| .b rfl rfl<| .b rfl rfl<| .b rfl rfl<| .b rfl rfl<| .b rfl rfl<| .n)) (BaseL.ok (.o rfl<| .o rfl<| .o rfl<| .o rfl<| .o rfl<| .b<| .b<| .b<| .b<| .b<| .b<| .b<| .b<| .b<| .b<| .b<| .b<| .b<| .b<| .b<| .b<| .b<| .b<| .b<| .b<| .b<| .n)) rfl (by decide) (allLt rfl) (.pure rfl (fun H => .put (fun E hE => .move (l1 rfl) (.tmp (hE.at (k := 0) rfl))))<| .read rfl (.c (.put (fun E hE => .fieldP (l1 rfl) (.tmp (hE.at (k := 0) rfl)) fld25_0)) .n)<| .read rfl (.c (.put (fun E hE => .loadP (l1 rfl) (.tmp (hE.at (k := 0) rfl)) one22 rfl rfl rfl)) .n)<| .pure rfl (fun H => .put (fun E hE => .move (l1 rfl) (.tmp (hE.at (k := 0) rfl))))<| .pure rfl (fun H => .put (fun E hE => .move (l1 rfl) (.tmp (hE.at (k := 0) rfl))))<| .pure rfl (fun H => .put (fun E hE => .sub (l1 rfl) (.tmp (hE.at (k := 0) rfl)) (.const _ _ _)))<| .pure rfl (fun H => .put (fun E hE => .indexRd (enc := eW) (l1 rfl) (.tmp (hE.at (k := 0) rfl)) (.tmp (hE.at (k := 1) rfl)) Try.underlying28 sz3 (encI_len .i64) rfl hy_11))<| .pure rfl (fun H => .put (fun E hE => .loadR (v := iW y_11) (l1 rfl) (.tmp (hE.at (k := 0) rfl)) one3 rfl))<| .pure rfl (fun H => .put (fun E hE => .indexRd (enc := e45) (l1 rfl) (.tmp (hE.at (k := 0) rfl)) (.tmp (hE.at (k := 1) rfl)) Try.underlying22 sz46 encR45_len rfl hy_12))<| .pure rfl (fun H => .put (fun E hE => .loadRA (out := [iW y_12.X,iW y_12.Y]) (l1 rfl) (.tmp (hE.at (k := 0) rfl)) agg46 (Nat.le_of_eq (Eq.symm (encR45_len _))) rfl))<| .read rfl (.c (.put (fun E hE => .fieldP (l1 rfl) (.tmp (hE.at (k := 0) rfl)) fld25_0)) .n)<| .read rfl (.c (.put (fun E hE => .loadP (l1 rfl) (.tmp (hE.at (k := 0) rfl)) one22 rfl rfl rfl)) .n)<| .pure rfl (fun H => .put (fun E hE => .move (l1 rfl) (.tmp (hE.at (k := 0) rfl))))<| .pure rfl (fun H => .put (fun E hE => .move (l1 rfl) (.tmp (hE.at (k := 0) rfl))))<| .pure rfl (fun H => .put (fun E hE => .indexRd (enc := eW) (l1 rfl) (.tmp (hE.at (k := 0) rfl)) (.tmp (hE.at (k := 1) rfl)) Try.underlying28 sz3 (encI_len .i64) rfl hy_13))<| .pure rfl (fun H => .put (fun E hE => .loadR (v := iW y_13) (l1 rfl) (.tmp (hE.at (k := 0) rfl)) one3 rfl))<| .pure rfl (fun H => .put (fun E hE => .indexRd (enc := e45) (l1 rfl) (.tmp (hE.at (k := 0) rfl)) (.tmp (hE.at (k := 1) rfl)) Try.underlying22 sz46 encR45_len rfl hy_14))<| .pure rfl (fun H => .put (fun E hE => .loadRA (out := [iW y_14.X,iW y_14.Y]) (l1 rfl) (.tmp (hE.at (k := 0) rfl)) agg46 (Nat.le_of_eq (Eq.symm (encR45_len _))) rfl))<| .pure rfl (fun H => .put (fun E hE => .call0 (bw := false) (l1 rfl) (c36 n (R45.mk y_12.X y_12.Y) (R45.mk y_14.X y_14.Y) hy_15) (.cons (.tmp (hE.at (k := 0) rfl)) (.ren rfl) (.cons (.tmp (hE.at (k := 1) rfl)) (.ren rfl) (.nil))) rfl))<| .pure rfl (fun H => .put (fun E hE => .add (l1 rfl) (.tmp (hE.at (k := 0) rfl)) (.tmp (hE.at (k := 1) rfl))))<| .pure rfl (fun H => .put (fun E hE => .assign (l1 rfl) (.tmp (hE.at (k := 0) rfl))))<| .nil _) (fun E hE => .c (DInv.at hE (k := 0) rfl rfl rfl)<| .c (DInv.at hE (k := 1) rfl rfl rfl)<| .c (DInv.at hE (k := 25) rfl rfl rfl)<| .c (DInv.at hE (k := 3) rfl rfl rfl)<| .n _) rfl ?_
   refine AWP.vc (s' := ⟨[(1,rW β3 a1 eW),(2,.ptr 1 0),(5,iW t5_16),(6,iW x_9.2)],[(1,⟨25,false,(pW β1 β2 a0)⟩)]⟩) (by subst ht5_16; exact VC.sub (.of rfl) (.of rfl)) ?_
   obtain ⟨t6_17,ht6_17,h⟩ := letS h
   refine AWP.rg (.cons (.move (l1 rfl) (.t rfl))<| .cons (.add (l1 rfl) (.t rfl) (.const _ _ _))<| .cons (.assign (l1 rfl) (.t rfl))<| ARun.nil _ _ _) ?_
   exact endJ (t5_16,t6_17) h (by subst ht6_17; exact VC.sub (.of rfl) (.of rfl))
  ·have h := iteF hc h
   refine AWP.exit ?_
   exact endJ x_9.1 h (VC.sub (.of rfl) (.n _))
theorem c20 {β1 : Bool} {β2 : Bool} {β3 : Bool} (n : Nat) (a0 : R24) (a1 : (List Int)) {r : Int} (h : m20 n a0 a1 = some r) : Spec Try.prog 20 [] [.agg (pW β1 β2 a0),rW β3 a1 eW] [] (iW r) [] := by
 refine Spec.of (fn := Try.f20) Try.func20 Try.ntmps20 rfl rfl (le1 rfl) (fun w0 Zs Zb T0 ι0 => ?_)
 unfold m20 at h
 refine AWP.seq ?_
 refine AWP.rg (.cons (.box (t := 1) (n := 2) (l1 rfl) (nm rfl) (.t rfl) (by first | exact ⟨rfl,rfl⟩ | rfl) rfl)<| .cons (.assign (l1 rfl) (.const _ _ _))<| ARun.nil _ _ _) ?_
 refine AWP.vc (s' := ⟨[(1,rW β3 a1 eW),(2,.ptr 1 0)],[(1,⟨25,false,(pW β1 β2 a0)⟩)]⟩) (VC.sub (.of rfl) (.of rfl)) ?_
 refine AWP.seq ?_
 obtain ⟨y_1,hy_1,h⟩ := bindS h
 obtain ⟨y_2,hy_2,h⟩ := bindS h
 obtain ⟨y_3,hy_3,h⟩ := bindS h
 obtain ⟨y_4,hy_4,h⟩ := bindS h
 obtain ⟨y_5,hy_5,h⟩ := bindS h
 obtain ⟨t4_6,ht4_6,h⟩ := letS h
 refine AWP.draw (s' := ⟨[(4,iW (IntKind.wrap .i64 (y_1 + y_5)))],[(1,⟨25,false,(pW β1 β2 a0)⟩)]⟩) mixed [⟨1,rW β3 a1 eW,none,[]⟩,⟨2,.ptr 1 0,none,[]⟩,⟨5,.agg (pW β1 β2 a0),some 0,[]⟩,⟨6,rW β3 a1 eW,some 1,[]⟩,⟨7,iW y_1,some 2,[]⟩,⟨8,.ptr 1 (0 + 0),some 3,[]⟩,⟨9,rW β1 a0.Pq e45,some 4,[]⟩,⟨10,rW β3 a1 eW,some 5,[]⟩,⟨11,rW β3 a1 eW,some 6,[]⟩,⟨12,iW (a1.length : Int),some 7,[]⟩,⟨13,iW (IntKind.wrap .i64 ((a1.length : Int) - (1 : Int))),some 8,[]⟩,⟨14,.rptr β3 [iW y_2],some 9,[]⟩,⟨15,iW y_2,some 10,[]⟩,⟨16,.rptr β1 [iW y_3.X,iW y_3.Y],some 11,[]⟩,⟨17,.agg [iW y_3.X,iW y_3.Y],some 12,[]⟩,⟨18,.ptr 1 (0 + 0),some 13,[]⟩,⟨19,rW β1 a0.Pq e45,some 14,[]⟩,⟨20,.rptr β1 [iW y_4.X,iW y_4.Y],some 15,[]⟩,⟨21,.agg [iW y_4.X,iW y_4.Y],some 16,[]⟩,⟨22,iW y_5,some 17,[]⟩,⟨23,iW (IntKind.wrap .i64 (y_1 + y_5)),some 18,[]⟩,⟨4,iW (IntKind.wrap .i64 (y_1 + y_5)),some 19,[]⟩] [⟨[1],0,0,some (5,.agg (pW β1 β2 a0)),[]⟩,⟨[0],0,0,some (6,rW β3 a1 eW),[]⟩,⟨[2,3],0,0,some (7,iW y_1),[]⟩,⟨[1],0,0,some (8,.ptr 1 (0 + 0)),[]⟩,⟨[5],0,0,some (9,rW β1 a0.Pq e45),[]⟩,⟨[0],0,0,some (10,rW β3 a1 eW),[]⟩,⟨[0],0,0,some (11,rW β3 a1 eW),[]⟩,⟨[8],0,0,some (12,iW (a1.length : Int)),[]⟩,⟨[9],0,0,some (13,iW (IntKind.wrap .i64 ((a1.length : Int) - (1 : Int)))),[]⟩,⟨[7,10],0,0,some (14,.rptr β3 [iW y_2]),[]⟩,⟨[11],0,0,some (15,iW y_2),[]⟩,⟨[6,12],0,0,some (16,.rptr β1 [iW y_3.X,iW y_3.Y]),[]⟩,⟨[13],0,0,some (17,.agg [iW y_3.X,iW y_3.Y]),[]⟩,⟨[1],0,0,some (18,.ptr 1 (0 + 0)),[]⟩,⟨[15],0,0,some (19,rW β1 a0.Pq e45),[]⟩,⟨[16],0,0,some (20,.rptr β1 [iW y_4.X,iW y_4.Y]),[]⟩,⟨[17],0,0,some (21,.agg [iW y_4.X,iW y_4.Y]),[]⟩,⟨[14,18],0,0,some (22,iW y_5),[]⟩,⟨[4,19],0,0,some (23,iW (IntKind.wrap .i64 (y_1 + y_5))),[]⟩,⟨[20],0,0,some (4,iW (IntKind.wrap .i64 (y_1 + y_5))),[]⟩] [] [[(1,⟨25,false,(pW β1 β2 a0)⟩)]] [[],[],[0,1],[],[3],[],[],[6],[6,7],[5,6,7,8],[5,6,7,8,9],[3,4,5,6,7,8,9,10],[3,4,5,6,7,8,9,10,11],[],[13],[13,14],[13,14,15],[0,1,2,3,4,5,6,7,8,9,10,11,12,13,14,15,16],[0,1,2,3,4,5,6,7,8,9,10,11,12,13,14,15,16,17],[0,1,2,3,4,5,6,7,8,9,10,11,12,13,14,15,16,17,18]] (by kernel_rfl) (by kernel_rfl) (BornL.ok (.o<| .o<| .b rfl rfl<| .b rfl rfl<| .b rfl rfl<| .b rfl rfl<| .b rfl rfl<| .b rfl rfl<| .b rfl rfl<| .b rfl rfl<| .b rfl rfl<| .b rfl rfl<| .b rfl rfl<| .b rfl rfl<| .b rfl rfl<| .b rfl rfl<| .b rfl rfl<| .b rfl rfl<| .b rfl rfl<| .b rfl rfl<| .b rfl rfl<| .b rfl rfl<| .n)) (BaseL.ok (.o rfl<| .o rfl<| .b<| .b<| .b<| .b<| .b<| .b<| .b<| .b<| .b<| .b<| .b<| .b<| .b<| .b<| .b<| .b<| .b<| .b<| .b<| .b<| .n)) rfl (by decide) (allLt rfl) (.read rfl (.c (.put (fun E hE => .loadPA (l1 rfl) (.tmp (hE.at (k := 0) rfl)) agg25 rfl rfl rfl rfl)) .n)<| .pure rfl (fun H => .put (fun E hE => .move (l1 rfl) (.tmp (hE.at (k := 0) rfl))))<| .pure rfl (fun H => .put (fun E hE => .call0 (bw := false) (l1 rfl) (c53 (β1 := β1) (β2 := β2) (β3 := β3) n (R24.mk a0.Pq a0.Bq) a1 hy_1) (.cons (.tmp (hE.at (k := 0) rfl)) (.ren rfl) (.cons (.tmp (hE.at (k := 1) rfl)) (.ren rfl) (.nil))) rfl))<| .read rfl (.c (.put (fun E hE => .fieldP (l1 rfl) (.tmp (hE.at (k := 0) rfl)) fld25_0)) .n)<| .read rfl (.c (.put (fun E hE => .loadP (l1 rfl) (.tmp (hE.at (k := 0) rfl)) one22 rfl rfl rfl)) .n)<| .pure rfl (fun H => .put (fun E hE => .move (l1 rfl) (.tmp (hE.at (k := 0) rfl))))<| .pure rfl (fun H => .put (fun E hE => .move (l1 rfl) (.tmp (hE.at (k := 0) rfl))))<| .pure rfl (fun H => .put (fun E hE => .lenRd (l1 rfl) (.tmp (hE.at (k := 0) rfl)) Try.underlying28))<| .pure rfl (fun H => .put (fun E hE => .sub (l1 rfl) (.tmp (hE.at (k := 0) rfl)) (.const _ _ _)))<| .pure rfl (fun H => .put (fun E hE => .indexRd (enc := eW) (l1 rfl) (.tmp (hE.at (k := 0) rfl)) (.tmp (hE.at (k := 1) rfl)) Try.underlying28 sz3 (encI_len .i64) rfl hy_2))<| .pure rfl (fun H => .put (fun E hE => .loadR (v := iW y_2) (l1 rfl) (.tmp (hE.at (k := 0) rfl)) one3 rfl))<| .pure rfl (fun H => .put (fun E hE => .indexRd (enc := e45) (l1 rfl) (.tmp (hE.at (k := 0) rfl)) (.tmp (hE.at (k := 1) rfl)) Try.underlying22 sz46 encR45_len rfl hy_3))<| .pure rfl (fun H => .put (fun E hE => .loadRA (out := [iW y_3.X,iW y_3.Y]) (l1 rfl) (.tmp (hE.at (k := 0) rfl)) agg46 (Nat.le_of_eq (Eq.symm (encR45_len _))) rfl))<| .read rfl (.c (.put (fun E hE => .fieldP (l1 rfl) (.tmp (hE.at (k := 0) rfl)) fld25_0)) .n)<| .read rfl (.c (.put (fun E hE => .loadP (l1 rfl) (.tmp (hE.at (k := 0) rfl)) one22 rfl rfl rfl)) .n)<| .pure rfl (fun H => .put (fun E hE => .indexRd (enc := e45) (l1 rfl) (.tmp (hE.at (k := 0) rfl)) (.const _ _ _) Try.underlying22 sz46 encR45_len rfl hy_4))<| .pure rfl (fun H => .put (fun E hE => .loadRA (out := [iW y_4.X,iW y_4.Y]) (l1 rfl) (.tmp (hE.at (k := 0) rfl)) agg46 (Nat.le_of_eq (Eq.symm (encR45_len _))) rfl))<| .pure rfl (fun H => .put (fun E hE => .call0 (bw := false) (l1 rfl) (c36 n (R45.mk y_3.X y_3.Y) (R45.mk y_4.X y_4.Y) hy_5) (.cons (.tmp (hE.at (k := 0) rfl)) (.ren rfl) (.cons (.tmp (hE.at (k := 1) rfl)) (.ren rfl) (.nil))) rfl))<| .pure rfl (fun H => .put (fun E hE => .add (l1 rfl) (.tmp (hE.at (k := 0) rfl)) (.tmp (hE.at (k := 1) rfl))))<| .pure rfl (fun H => .put (fun E hE => .assign (l1 rfl) (.tmp (hE.at (k := 0) rfl))))<| .nil _) (fun E hE => .c (DInv.at hE (k := 21) rfl rfl rfl)<| .n _) rfl ?_
 refine AWP.ret ?_
 obtain rfl := Option.some.inj h
 refine retJ (Res.vc (s' := ⟨[(4,iW t4_6)],[]⟩) (by subst ht4_6; exact VC.sub (.of rfl) (.n _)) ?_)
 refine Res.drop (H := []) rfl ?_
 exact Res.of rfl (.cons (.tmp rfl) (.nil)) rfl rfl
end Go.AB
