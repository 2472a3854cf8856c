import Derived.Test.YtiginjokbkemcaaProg
import Derived.Test.YtiginjokbkemcaaF3a
import Derived.KernelRfl
set_option linter.unusedVariables false
set_option maxRecDepth 20000
namespace Go.AB
open Go Go.Proofs
theorem c21 {β1 : Bool} {β2 : Bool} {β3 : Bool} (n : Nat) (a0 : R24) (a1 : (List UInt8)) {r : (List Int)} (h : m21 n a0 a1 = some r) : Spec Try.prog 21 [] [.agg [.rd β1 a0.Points.length (a0.Points.flatMap encR45),.rd β2 a0.Before.length (a0.Before.flatMap encR93)],.rd β3 a1.length (a1.flatMap enc8)] [] (.rd false r.length (r.flatMap (encI .i64))) [] := by
  refine Spec.of (fn := Try.f21) Try.func21 Try.ntmps21 rfl rfl (le1 rfl) (fun w0 Zs Zb T0 ι0 => ?_)
  unfold m21 at h
  refine AWP.seq ?_
  refine AWP.region (.cons (.box (t := 1) (n := 2) (lt1 rfl) (nm rfl) (.tmp rfl) (by first | exact ⟨rfl,rfl⟩ | rfl) rfl)<| .cons (.assign (lt1 rfl) (.const _ _ _))<| ARun.nil _ _ _) ?_
  refine AWP.vc (s' := ⟨[(1,.rd β3 a1.length (a1.flatMap enc8)),(2,.ptr 1 0)],[(1,⟨25,false,[.rd β1 a0.Points.length (a0.Points.flatMap encR45),.rd β2 a0.Before.length (a0.Before.flatMap encR93)]⟩)]⟩) (VC.sub (.c rfl<| .c rfl<| .n _) (.c rfl<| .n _)) ?_
  refine AWP.seq ?_
  refine AWP.region (.cons (.buildSlice (t := 2) (out := ([(0 : Int)] : List Int).flatMap (encI .i64)) (lt1 rfl) (nm rfl) (.cons (.const _ _ _) (by first | exact ⟨rfl,rfl⟩ | rfl) (.nil)) Try.underlying28 zero3 el3 (by decide) (by decide) rfl (still_all (encI_still .i64) _))<| .cons (.assign (lt1 rfl) (.tmp rfl))<| ARun.nil _ _ _) ?_
  refine AWP.vc (s' := ⟨[(1,.rd β3 a1.length (a1.flatMap enc8)),(2,.ptr 1 0),(5,.own 2 1 0 ([(0 : Int)] : List Int).length)],[(2,⟨3,true,([(0 : Int)] : List Int).flatMap (encI .i64)⟩),(1,⟨25,false,[.rd β1 a0.Points.length (a0.Points.flatMap encR45),.rd β2 a0.Before.length (a0.Before.flatMap encR93)]⟩)]⟩) (VC.sub (.c rfl<| .c rfl<| .c rfl<| .n _) (.c rfl<| .c rfl<| .n _)) ?_
  refine AWP.seq ?_
  refine AWP.seq ?_
  refine AWP.region (.cons (.assign (lt1 rfl) (.const _ _ _))<| ARun.nil _ _ _) ?_
  refine AWP.vc (s' := ⟨[(1,.rd β3 a1.length (a1.flatMap enc8)),(2,.ptr 1 0),(5,.own 2 1 0 ([(0 : Int)] : List Int).length),(6,.sc (.int .i64 (0 : Int)))],[(2,⟨3,true,([(0 : Int)] : List Int).flatMap (encI .i64)⟩),(1,⟨25,false,[.rd β1 a0.Points.length (a0.Points.flatMap encR45),.rd β2 a0.Before.length (a0.Before.flatMap encR93)]⟩)]⟩) (VC.sub (.c rfl<| .c rfl<| .c rfl<| .c rfl<| .n _) (.c rfl<| .c rfl<| .n _)) ?_
  refine AWP.joinB' (S := fun p_32 : (List Int) => ⟨[(5,.own 2 1 0 p_32.length)],[(2,⟨3,true,p_32.flatMap (encI .i64)⟩)]⟩) h (fun p_32 h => ?_) (fun k_33 h => ?_)
  · refine AWP.seq ?_
    refine AWP.region (.cons (.move (lt1 rfl) (.tmp rfl))<| .cons (.assign (lt1 rfl) (.tmp rfl))<| ARun.nil _ _ _) ?_
    refine AWP.ret ?_
    obtain rfl := Option.some.inj h
    refine retJ (Res.vc (s' := ⟨[(4,.rd false p_32.length (p_32.flatMap (encI .i64)))],[]⟩) (VC.trans (VC.frz (d := 4) (t := 2) rfl rfl (encI_len .i64)) (VC.sub (.c rfl<| .n _) (.n _))) ?_)
    refine Res.drop (H := []) rfl ?_
    exact Res.of rfl (.cons (.tmp rfl) (.nil)) rfl rfl
  · refine AWP.vc (s' := ⟨[(1,.rd β3 a1.length (a1.flatMap enc8)),(2,.ptr 1 0),(5,.own 2 1 0 ([(0 : Int)] : List Int).length),(6,.sc (.int .i64 (0 : Int)))],[(1,⟨25,false,[.rd β1 a0.Points.length (a0.Points.flatMap encR45),.rd β2 a0.Before.length (a0.Before.flatMap encR93)]⟩),(2,⟨3,true,([(0 : Int)] : List Int).flatMap (encI .i64)⟩)]⟩) (VC.sub (.c rfl<| .c rfl<| .c rfl<| .c rfl<| .n _) (.c rfl<| .c rfl<| .n _)) ?_
    refine AWP.loopM (S := fun x_21 : Int × (List Int) => ⟨[(1,.rd β3 a1.length (a1.flatMap enc8)),(2,.ptr 1 0),(5,.own 2 1 0 x_21.2.length),(6,.sc (.int .i64 x_21.1))],[(1,⟨25,false,[.rd β1 a0.Points.length (a0.Points.flatMap encR45),.rd β2 a0.Before.length (a0.Before.flatMap encR93)]⟩),(2,⟨3,true,x_21.2.flatMap (encI .i64)⟩)]⟩) (x := ((0 : Int),([(0 : Int)] : List Int))) (fun nx_22 x_21 h => ?_) h
    unfold m21_L1 at h
    refine AWP.seq ?_
    refine AWP.seq ?_
    refine AWP.region (.cons (.move (lt1 rfl) (.tmp rfl))<| .cons (.lenOwn (lt1 rfl) (.tmp rfl) Try.underlying28)<| .cons (.fieldP (lt1 rfl) (.tmp rfl) fld25_0)<| .cons (.loadP (lt1 rfl) (.tmp rfl) one22 rfl rfl rfl)<| .cons (.lenRd (lt1 rfl) (.tmp rfl) Try.underlying22)<| .cons (.lss (lt1 rfl) (.tmp rfl) (.tmp rfl))<| ARun.nil _ _ _) ?_
    refine AWP.vc (s' := ⟨[(1,.rd β3 a1.length (a1.flatMap enc8)),(2,.ptr 1 0),(5,.own 2 1 0 x_21.2.length),(6,.sc (.int .i64 x_21.1)),(15,.sc (.bool (decide ((x_21.2.length : Int) < (a0.Points.length : Int)))))],[(1,⟨25,false,[.rd β1 a0.Points.length (a0.Points.flatMap encR45),.rd β2 a0.Before.length (a0.Before.flatMap encR93)]⟩),(2,⟨3,true,x_21.2.flatMap (encI .i64)⟩)]⟩) (VC.sub (.c rfl<| .c rfl<| .c rfl<| .c rfl<| .c rfl<| .n _) (.c rfl<| .c rfl<| .n _)) ?_
    refine AWP.cond (.tmp rfl) (fun hc => ?_) (fun hc => ?_)
    · have h := iteT hc h
      refine AWP.skip ?_
      refine AWP.seq ?_
      refine AWP.block ?_
      refine AWP.seq ?_
      obtain ⟨y_23,hy_23,h⟩ := bindS h
      refine AWP.region (.cons (.loadPA (lt1 rfl) (.tmp rfl) agg25 rfl rfl rfl rfl)<| .cons (.move (lt1 rfl) (.tmp rfl))<| .cons (.call0 (bw := true) (lt1 rfl) (c45 (β1 := β1) (β2 := β2) (β3 := true) n (R24.mk a0.Points a0.Before) x_21.2 hy_23) (.cons (.tmp rfl) (.ren rfl) (.cons (.tmp rfl) (.lendRow rfl rfl (encI_len .i64) rfl) (.nil))) rfl)<| .cons (.assign (lt1 rfl) (.tmp rfl))<| ARun.nil _ _ _) ?_
      refine AWP.vc (s' := ⟨[(1,.rd β3 a1.length (a1.flatMap enc8)),(2,.ptr 1 0),(5,.own 2 1 0 x_21.2.length),(6,.sc (.int .i64 x_21.1)),(7,.rd false y_23.length (y_23.flatMap (encI .i64)))],[(1,⟨25,false,[.rd β1 a0.Points.length (a0.Points.flatMap encR45),.rd β2 a0.Before.length (a0.Before.flatMap encR93)]⟩),(2,⟨3,true,x_21.2.flatMap (encI .i64)⟩)]⟩) (VC.sub (.c rfl<| .c rfl<| .c rfl<| .c rfl<| .c rfl<| .n _) (.c rfl<| .c rfl<| .n _)) ?_
      refine AWP.seq ?_
      refine AWP.region (.cons (.assign (lt1 rfl) (.const _ _ _))<| ARun.nil _ _ _) ?_
      refine AWP.vc (s' := ⟨[(1,.rd β3 a1.length (a1.flatMap enc8)),(2,.ptr 1 0),(5,.own 2 1 0 x_21.2.length),(6,.sc (.int .i64 x_21.1)),(7,.rd false y_23.length (y_23.flatMap (encI .i64))),(8,.sc (.int .i64 (0 : Int)))],[(1,⟨25,false,[.rd β1 a0.Points.length (a0.Points.flatMap encR45),.rd β2 a0.Before.length (a0.Before.flatMap encR93)]⟩),(2,⟨3,true,x_21.2.flatMap (encI .i64)⟩)]⟩) (VC.sub (.c rfl<| .c rfl<| .c rfl<| .c rfl<| .c rfl<| .c rfl<| .n _) (.c rfl<| .c rfl<| .n _)) ?_
      refine AWP.seq ?_
      refine AWP.seq ?_
      refine AWP.region (.cons (.move (lt1 rfl) (.tmp rfl))<| .cons (.move (lt1 rfl) (.tmp rfl))<| .cons (.lenRd (lt1 rfl) (.tmp rfl) Try.underlying36)<| .cons (.lss (lt1 rfl) (.tmp rfl) (.tmp rfl))<| ARun.nil _ _ _) ?_
      refine AWP.vc (s' := ⟨[(1,.rd β3 a1.length (a1.flatMap enc8)),(2,.ptr 1 0),(5,.own 2 1 0 x_21.2.length),(6,.sc (.int .i64 x_21.1)),(7,.rd false y_23.length (y_23.flatMap (encI .i64))),(8,.sc (.int .i64 (0 : Int))),(24,.sc (.bool (decide (x_21.1 < (a1.length : Int)))))],[(1,⟨25,false,[.rd β1 a0.Points.length (a0.Points.flatMap encR45),.rd β2 a0.Before.length (a0.Before.flatMap encR93)]⟩),(2,⟨3,true,x_21.2.flatMap (encI .i64)⟩)]⟩) (VC.sub (.c rfl<| .c rfl<| .c rfl<| .c rfl<| .c rfl<| .c rfl<| .c rfl<| .n _) (.c rfl<| .c rfl<| .n _)) ?_
      refine AWP.join' (S := fun p_27 : Int => ⟨[(1,.rd β3 a1.length (a1.flatMap enc8)),(2,.ptr 1 0),(5,.own 2 1 0 x_21.2.length),(6,.sc (.int .i64 x_21.1)),(7,.rd false y_23.length (y_23.flatMap (encI .i64))),(8,.sc (.int .i64 p_27))],[(1,⟨25,false,[.rd β1 a0.Points.length (a0.Points.flatMap encR45),.rd β2 a0.Before.length (a0.Before.flatMap encR93)]⟩),(2,⟨3,true,x_21.2.flatMap (encI .i64)⟩)]⟩) h (fun p_27 h => ?_) (fun k_28 h => ?_)
      · obtain ⟨y_29,hy_29,h⟩ := bindS h
        obtain ⟨l2_30,hl2_30,h⟩ := bindS h
        refine AWP.region (.cons (.move (lt1 rfl) (.tmp rfl))<| .cons (.move (lt1 rfl) (.tmp rfl))<| .cons (.move (lt1 rfl) (.tmp rfl))<| .cons (.indexRd (enc := (encI .i64)) (lt1 rfl) (.tmp rfl) (.tmp rfl) Try.underlying28 sz3 (encI_len .i64) rfl hy_29)<| .cons (.loadR (v := .sc (.int .i64 y_29)) (lt1 rfl) (.tmp rfl) one3 rfl)<| .cons (.buildSlice (t := 3) (out := ([y_29] : List Int).flatMap (encI .i64)) (lt1 rfl) (nm rfl) (.cons (.tmp rfl) (by first | exact ⟨rfl,rfl⟩ | rfl) (.nil)) Try.underlying28 zero3 el3 (by decide) (by decide) rfl (still_all (encI_still .i64) _))<| .cons (.app (enc := (encI .i64)) (lt1 rfl) (nm rfl) (.tmp rfl) (Src.own (.tmp rfl) rfl (lendAll (encI_len .i64) _) (flatMap_length (encI_len .i64) _) (one_all (encI_one .i64) _) (.inl rfl)) Try.underlying28 ⟨_,Try.underlying28,by intro k hk; cases hk⟩ el3 rfl (encI_len .i64) rfl rfl (by decide) hl2_30)<| .cons (.assign (lt1 rfl) (.tmp rfl))<| ARun.nil _ _ _) ?_
        refine AWP.vc (s' := ⟨[(1,.rd β3 a1.length (a1.flatMap enc8)),(2,.ptr 1 0),(5,.own 2 1 0 l2_30.length),(6,.sc (.int .i64 x_21.1))],[(2,⟨3,true,l2_30.flatMap (encI .i64)⟩),(1,⟨25,false,[.rd β1 a0.Points.length (a0.Points.flatMap encR45),.rd β2 a0.Before.length (a0.Before.flatMap encR93)]⟩)]⟩) (VC.sub (.c rfl<| .c rfl<| .c rfl<| .c rfl<| .n _) (.c rfl<| .c rfl<| .n _)) ?_
        obtain ⟨t6_31,ht6_31,h⟩ := letS h
        refine AWP.region (.cons (.move (lt1 rfl) (.tmp rfl))<| .cons (.add (lt1 rfl) (.tmp rfl) (.const _ _ _))<| .cons (.assign (lt1 rfl) (.tmp rfl))<| ARun.nil _ _ _) ?_
        exact endJ (t6_31,l2_30) h (by subst ht6_31; exact VC.sub (.c rfl<| .c rfl<| .c rfl<| .c rfl<| .n _) (.c rfl<| .c rfl<| .n _))
      · refine AWP.cond (.tmp rfl) (fun hc => ?_) (fun hc => ?_)
        · have h := iteT hc h
          obtain ⟨y_24,hy_24,h⟩ := bindS h
          obtain ⟨ha_25,h⟩ := asrtS h
          obtain ⟨t8_26,ht8_26,h⟩ := letS h
          refine AWP.region (.cons (.move (lt1 rfl) (.tmp rfl))<| .cons (.move (lt1 rfl) (.tmp rfl))<| .cons (.indexRd (enc := enc8) (lt1 rfl) (.tmp rfl) (.tmp rfl) Try.underlying36 sz5 enc8_len rfl hy_24)<| .cons (.loadR (v := .sc (.int .u8 (y_24.toNat : Int))) (lt1 rfl) (.tmp rfl) one5 rfl)<| .cons (.conv (lt1 rfl) (.tmp rfl) Try.underlying5 Try.underlying3)<| .cons (.move (lt1 rfl) (.tmp rfl))<| .cons (.lenRd (lt1 rfl) (.tmp rfl) Try.underlying28)<| .cons (.rem (lt1 rfl) (.tmp rfl) (.tmp rfl) ha_25)<| .cons (.assign (lt1 rfl) (.tmp rfl))<| ARun.nil _ _ _) ?_
          exact endJ t8_26 h (by subst ht8_26; exact VC.sub (.c rfl<| .c rfl<| .c rfl<| .c rfl<| .c rfl<| .c rfl<| .n _) (.c rfl<| .c rfl<| .n _))
        · have h := iteF hc h
          refine AWP.skip ?_
          exact endJ (0 : Int) h (VC.sub (.c rfl<| .c rfl<| .c rfl<| .c rfl<| .c rfl<| .c rfl<| .n _) (.c rfl<| .c rfl<| .n _))
    · have h := iteF hc h
      refine AWP.exit ?_
      exact endJ x_21.2 h (VC.sub (.c rfl<| .n _) (.c rfl<| .n _))
theorem c4 {β1 : Bool} {β2 : Bool} {β3 : Bool} {β4 : Bool} (n : Nat) (a0 : R24) (a1 : (List Int)) (a2 : (List UInt8)) {r : Bool} (h : m4 n a0 a1 a2 = some r) : Spec Try.prog 4 [] [.agg [.rd β1 a0.Points.length (a0.Points.flatMap encR45),.rd β2 a0.Before.length (a0.Before.flatMap encR93)],.rd β3 a1.length (a1.flatMap (encI .i64)),.rd β4 a2.length (a2.flatMap enc8)] [] (.sc (.bool r)) [] := by
  refine Spec.of (fn := Try.f4) Try.func4 Try.ntmps4 rfl rfl (le1 rfl) (fun w0 Zs Zb T0 ι0 => ?_)
  unfold m4 at h
  refine AWP.seq ?_
  refine AWP.region (.cons (.box (t := 1) (n := 2) (lt1 rfl) (nm rfl) (.tmp rfl) (by first | exact ⟨rfl,rfl⟩ | rfl) rfl)<| .cons (.assign (lt1 rfl) (.const _ _ _))<| ARun.nil _ _ _) ?_
  refine AWP.vc (s' := ⟨[(1,.rd β3 a1.length (a1.flatMap (encI .i64))),(2,.rd β4 a2.length (a2.flatMap enc8)),(3,.ptr 1 0)],[(1,⟨25,false,[.rd β1 a0.Points.length (a0.Points.flatMap encR45),.rd β2 a0.Before.length (a0.Before.flatMap encR93)]⟩)]⟩) (VC.sub (.c rfl<| .c rfl<| .c rfl<| .n _) (.c rfl<| .n _)) ?_
  refine AWP.seq ?_
  refine AWP.seq ?_
  obtain ⟨y_1,hy_1,h⟩ := bindS h
  obtain ⟨y_2,hy_2,h⟩ := bindS h
  refine AWP.region (.cons (.call0 (bw := false) (lt1 rfl) (c11 n hy_1) (.nil) rfl)<| .cons (.not (lt1 rfl) (.tmp rfl))<| .cons (.move (lt1 rfl) (.tmp rfl))<| .guard (j := 2) (dj := 14) rfl (lt1 rfl) rfl (lt1 rfl) (fun hg => .loadPA (lt1 rfl) (.tmp rfl) agg25 rfl rfl rfl rfl)<| .guard (j := 2) (dj := 14) rfl (lt1 rfl) rfl (lt1 rfl) (fun hg => .call0 (bw := false) (lt1 rfl) (c12 (β1 := β1) (β2 := β2) n (R24.mk a0.Points a0.Before) (gdB hy_2 hg)) (.cons (.gd hg (.tmp rfl)) (.ren rfl) (.nil)) rfl)<| .guard (j := 2) (dj := 14) rfl (lt1 rfl) rfl (lt1 rfl) (fun hg => .not (lt1 rfl) (.gd hg (.tmp rfl)))<| .cons (.pickOr (lt1 rfl) (.tmp rfl) (.const _ _ _) (.tmp rfl))<| .cons (.move (lt1 rfl) (.tmp rfl))<| .guard (j := 7) (dj := 19) rfl (lt1 rfl) rfl (lt1 rfl) (fun hg => .move (lt1 rfl) (.tmp rfl))<| .guard (j := 7) (dj := 19) rfl (lt1 rfl) rfl (lt1 rfl) (fun hg => .lenRd (lt1 rfl) (.gd hg (.tmp rfl)) Try.underlying28)<| .guard (j := 7) (dj := 19) rfl (lt1 rfl) rfl (lt1 rfl) (fun hg => .gtr (lt1 rfl) (.gd hg (.tmp rfl)) (.const _ _ _))<| .cons (.pickOr (lt1 rfl) (.tmp rfl) (.const _ _ _) (.tmp rfl))<| ARun.nil _ _ _) ?_
  refine AWP.vc (s' := ⟨[(1,.rd β3 a1.length (a1.flatMap (encI .i64))),(2,.rd β4 a2.length (a2.flatMap enc8)),(3,.ptr 1 0),(23,.sc (.bool (((!y_1) || (!y_2)) || (decide ((20 : Int) < (a1.length : Int))))))],[(1,⟨25,false,[.rd β1 a0.Points.length (a0.Points.flatMap encR45),.rd β2 a0.Before.length (a0.Before.flatMap encR93)]⟩)]⟩) (VC.sub (.c rfl<| .c rfl<| .c rfl<| .c rfl<| .n _) (.c rfl<| .n _)) ?_
  refine AWP.cond (.tmp rfl) (fun hc => ?_) (fun hc => ?_)
  · have h := iteT hc h
    refine AWP.seq ?_
    obtain ⟨y_3,hy_3,h⟩ := bindS h
    refine AWP.region (.cons (.call0 (bw := false) (lt1 rfl) (c11 n hy_3) (.nil) rfl)<| .cons (.assign (lt1 rfl) (.tmp rfl))<| ARun.nil _ _ _) ?_
    refine AWP.ret ?_
    obtain rfl := Option.some.inj h
    refine retJ (Res.vc (s' := ⟨[(6,.sc (.bool y_3))],[]⟩) (VC.sub (.c rfl<| .n _) (.n _)) ?_)
    refine Res.drop (H := []) rfl ?_
    exact Res.of rfl (.cons (.tmp rfl) (.nil)) rfl rfl
  · have h := iteF hc h
    refine AWP.skip ?_
    refine AWP.seq ?_
    obtain ⟨y_4,hy_4,h⟩ := bindS h
    obtain ⟨y_5,hy_5,h⟩ := bindS h
    refine AWP.region (.cons (.loadPA (lt1 rfl) (.tmp rfl) agg25 rfl rfl rfl rfl)<| .cons (.call0 (bw := false) (lt1 rfl) (c14 (β1 := β1) (β2 := β2) n (R24.mk a0.Points a0.Before) hy_4) (.cons (.tmp rfl) (.ren rfl) (.nil)) rfl)<| .cons (.move (lt1 rfl) (.tmp rfl))<| .cons (.call0 (bw := false) (lt1 rfl) (c18 (β1 := β1) (β2 := β2) (β3 := β3) n (R24.mk y_4.Points y_4.Before) a1 hy_5) (.cons (.tmp rfl) (.ren rfl) (.cons (.tmp rfl) (.ren rfl) (.nil))) rfl)<| .cons (.move (lt1 rfl) (.tmp rfl))<| .cons (.extract (lt1 rfl) (.tmp rfl) rfl)<| .cons (.extract (lt1 rfl) (.tmp rfl) rfl)<| .cons (.assign (lt1 rfl) (.tmp rfl))<| .cons (.assign (lt1 rfl) (.tmp rfl))<| ARun.nil _ _ _) ?_
    refine AWP.vc (s' := ⟨[(1,.rd β3 a1.length (a1.flatMap (encI .i64))),(2,.rd β4 a2.length (a2.flatMap enc8)),(3,.ptr 1 0),(7,.sc (.int .i64 y_5.1)),(8,.sc (.int .i64 y_5.2))],[(1,⟨25,false,[.rd β1 a0.Points.length (a0.Points.flatMap encR45),.rd β2 a0.Before.length (a0.Before.flatMap encR93)]⟩)]⟩) (VC.sub (.c rfl<| .c rfl<| .c rfl<| .c rfl<| .c rfl<| .n _) (.c rfl<| .n _)) ?_
    refine AWP.seq ?_
    obtain ⟨y_6,hy_6,h⟩ := bindS h
    refine AWP.region (.cons (.loadPA (lt1 rfl) (.tmp rfl) agg25 rfl rfl rfl rfl)<| .cons (.move (lt1 rfl) (.tmp rfl))<| .cons (.call0 (bw := false) (lt1 rfl) (c19 (β1 := β1) (β2 := β2) (β3 := β3) n (R24.mk a0.Points a0.Before) a1 hy_6) (.cons (.tmp rfl) (.ren rfl) (.cons (.tmp rfl) (.ren rfl) (.nil))) rfl)<| .cons (.move (lt1 rfl) (.tmp rfl))<| .cons (.extract (lt1 rfl) (.tmp rfl) rfl)<| .cons (.extract (lt1 rfl) (.tmp rfl) rfl)<| .cons (.assign (lt1 rfl) (.tmp rfl))<| .cons (.assign (lt1 rfl) (.tmp rfl))<| ARun.nil _ _ _) ?_
    refine AWP.vc (s' := ⟨[(2,.rd β4 a2.length (a2.flatMap enc8)),(3,.ptr 1 0),(7,.sc (.int .i64 y_5.1)),(8,.sc (.int .i64 y_5.2)),(9,.sc (.int .i64 y_6.1)),(10,.sc (.int .i64 y_6.2))],[(1,⟨25,false,[.rd β1 a0.Points.length (a0.Points.flatMap encR45),.rd β2 a0.Before.length (a0.Before.flatMap encR93)]⟩)]⟩) (VC.sub (.c rfl<| .c rfl<| .c rfl<| .c rfl<| .c rfl<| .c rfl<| .n _) (.c rfl<| .n _)) ?_
    refine AWP.seq ?_
    refine AWP.seq ?_
    refine AWP.region (.cons (.move (lt1 rfl) (.tmp rfl))<| .cons (.move (lt1 rfl) (.tmp rfl))<| .cons (.neq (lt1 rfl) (.tmp rfl) (.tmp rfl))<| .cons (.move (lt1 rfl) (.tmp rfl))<| .guard (j := 3) (dj := 41) rfl (lt1 rfl) rfl (lt1 rfl) (fun hg => .move (lt1 rfl) (.tmp rfl))<| .guard (j := 3) (dj := 41) rfl (lt1 rfl) rfl (lt1 rfl) (fun hg => .move (lt1 rfl) (.tmp rfl))<| .guard (j := 3) (dj := 41) rfl (lt1 rfl) rfl (lt1 rfl) (fun hg => .neq (lt1 rfl) (.gd hg (.tmp rfl)) (.gd hg (.tmp rfl)))<| .cons (.pickOr (lt1 rfl) (.tmp rfl) (.const _ _ _) (.tmp rfl))<| ARun.nil _ _ _) ?_
    refine AWP.vc (s' := ⟨[(2,.rd β4 a2.length (a2.flatMap enc8)),(3,.ptr 1 0),(7,.sc (.int .i64 y_5.1)),(8,.sc (.int .i64 y_5.2)),(45,.sc (.bool ((!decide (y_5.1 = y_6.1)) || (!decide (y_5.2 = y_6.2)))))],[(1,⟨25,false,[.rd β1 a0.Points.length (a0.Points.flatMap encR45),.rd β2 a0.Before.length (a0.Before.flatMap encR93)]⟩)]⟩) (VC.sub (.c rfl<| .c rfl<| .c rfl<| .c rfl<| .c rfl<| .n _) (.c rfl<| .n _)) ?_
    refine AWP.cond (.tmp rfl) (fun hc => ?_) (fun hc => ?_)
    · have h := iteT hc h
      refine AWP.seq ?_
      refine AWP.region (.cons (.assign (lt1 rfl) (.const _ _ _))<| ARun.nil _ _ _) ?_
      refine AWP.ret ?_
      obtain rfl := Option.some.inj h
      refine retJ (Res.vc (s' := ⟨[(6,.sc (.bool false))],[]⟩) (VC.sub (.c rfl<| .n _) (.n _)) ?_)
      refine Res.drop (H := []) rfl ?_
      exact Res.of rfl (.cons (.tmp rfl) (.nil)) rfl rfl
    · have h := iteF hc h
      refine AWP.skip ?_
      refine AWP.seq ?_
      refine AWP.seq ?_
      refine AWP.region (.cons (.move (lt1 rfl) (.tmp rfl))<| .cons (.neq (lt1 rfl) (.tmp rfl) (.const _ _ _))<| ARun.nil _ _ _) ?_
      refine AWP.vc (s' := ⟨[(2,.rd β4 a2.length (a2.flatMap enc8)),(3,.ptr 1 0),(7,.sc (.int .i64 y_5.1)),(47,.sc (.bool (!decide (y_5.2 = (0 : Int)))))],[(1,⟨25,false,[.rd β1 a0.Points.length (a0.Points.flatMap encR45),.rd β2 a0.Before.length (a0.Before.flatMap encR93)]⟩)]⟩) (VC.sub (.c rfl<| .c rfl<| .c rfl<| .c rfl<| .n _) (.c rfl<| .n _)) ?_
      refine AWP.cond (.tmp rfl) (fun hc => ?_) (fun hc => ?_)
      · have h := iteT hc h
        refine AWP.seq ?_
        refine AWP.region (.cons (.assign (lt1 rfl) (.const _ _ _))<| ARun.nil _ _ _) ?_
        refine AWP.ret ?_
        obtain rfl := Option.some.inj h
        refine retJ (Res.vc (s' := ⟨[(6,.sc (.bool true))],[]⟩) (VC.sub (.c rfl<| .n _) (.n _)) ?_)
        refine Res.drop (H := []) rfl ?_
        exact Res.of rfl (.cons (.tmp rfl) (.nil)) rfl rfl
      · have h := iteF hc h
        refine AWP.skip ?_
        refine AWP.seq ?_
        refine AWP.region (.cons (.fieldP (lt1 rfl) (.tmp rfl) fld25_0)<| .cons (.loadP (lt1 rfl) (.tmp rfl) one22 rfl rfl rfl)<| .cons (.buildO (offs := [(0,1),(1,1)]) (lt1 rfl) (.cons (.tmp rfl) (by first | exact ⟨rfl,rfl⟩ | rfl) (.nil)) zero25 offs25 rfl)<| .cons (.alloc (t := 2) (k := ⟨25,false,[.sc (.slice none 0 0),.sc (.slice none 0 0)]⟩) (lt1 rfl) (nm rfl) zero25 rfl rfl)<| .cons (.storePA (.tmp rfl) (.tmp rfl) sz25 rfl rfl (le1 rfl) (one_lit rfl) (by intro h; cases h) rfl)<| ARun.nil _ _ _) ?_
        refine AWP.vc (s' := ⟨[(2,.rd β4 a2.length (a2.flatMap enc8)),(7,.sc (.int .i64 y_5.1)),(11,.ptr 2 0)],[(2,⟨25,false,[.rd β1 a0.Points.length (a0.Points.flatMap encR45),.sc (.slice none 0 0)]⟩)]⟩) (VC.sub (.c rfl<| .c rfl<| .c rfl<| .n _) (.c rfl<| .n _)) ?_
        refine AWP.seq ?_
        obtain ⟨y_7,hy_7,h⟩ := bindS h
        obtain ⟨y_8,hy_8,h⟩ := bindS h
        refine AWP.draw (s' := ⟨[(6,.sc (.bool (decide (y_5.1 ≤ y_8))))],[(2,⟨25,false,[.rd β1 a0.Points.length (a0.Points.flatMap encR45),.sc (.slice none 0 0)]⟩)]⟩) mixed [⟨2,.rd β4 a2.length (a2.flatMap enc8),none,[]⟩,⟨7,.sc (.int .i64 y_5.1),none,[]⟩,⟨11,.ptr 2 0,none,[]⟩,⟨51,.sc (.int .i64 y_5.1),some 0,[]⟩,⟨52,.agg [.rd β1 a0.Points.length (a0.Points.flatMap encR45),.sc (.slice none 0 0)],some 1,[]⟩,⟨53,.agg [.rd β1 a0.Points.length (a0.Points.flatMap encR45),.sc (.slice none 0 0)],some 2,[]⟩,⟨54,.rd β4 a2.length (a2.flatMap enc8),some 3,[]⟩,⟨55,.rd false y_7.length (y_7.flatMap (encI .i64)),some 4,[]⟩,⟨56,.sc (.int .i64 y_8),some 5,[]⟩,⟨57,.sc (.bool (decide (y_5.1 ≤ y_8))),some 6,[]⟩,⟨6,.sc (.bool (decide (y_5.1 ≤ y_8))),some 7,[]⟩] [⟨[1],0,0,some (51,.sc (.int .i64 y_5.1)),[]⟩,⟨[2],0,0,some (52,.agg [.rd β1 a0.Points.length (a0.Points.flatMap encR45),.sc (.slice none 0 0)]),[]⟩,⟨[2],0,0,some (53,.agg [.rd β1 a0.Points.length (a0.Points.flatMap encR45),.sc (.slice none 0 0)]),[]⟩,⟨[0],0,0,some (54,.rd β4 a2.length (a2.flatMap enc8)),[]⟩,⟨[5,6],0,0,some (55,.rd false y_7.length (y_7.flatMap (encI .i64))),[]⟩,⟨[4,7],0,0,some (56,.sc (.int .i64 y_8)),[]⟩,⟨[3,8],0,0,some (57,.sc (.bool (decide (y_5.1 ≤ y_8)))),[]⟩,⟨[9],0,0,some (6,.sc (.bool (decide (y_5.1 ≤ y_8)))),[]⟩] [] [[(2,⟨25,false,[.rd β1 a0.Points.length (a0.Points.flatMap encR45),.sc (.slice none 0 0)]⟩)]] [[],[],[],[],[2,3],[1,2,3,4],[0,1,2,3,4,5],[0,1,2,3,4,5,6]] (by kernel_rfl) (by kernel_rfl) (BornL.ok (.o<| .o<| .o<| .b rfl rfl<| .b rfl rfl<| .b rfl rfl<| .b rfl rfl<| .b rfl rfl<| .b rfl rfl<| .b rfl rfl<| .b rfl rfl<| .n)) (BaseL.ok (.o rfl<| .o rfl<| .o rfl<| .b<| .b<| .b<| .b<| .b<| .b<| .b<| .b<| .n)) rfl (by decide) (allLt rfl) (.pure rfl (fun H => .put (fun E hE => .move (lt1 rfl) (.tmp (hE.at (k := 0) rfl))))<| .read rfl (.c (.put (fun E hE => .loadPA (lt1 rfl) (.tmp (hE.at (k := 0) rfl)) agg25 rfl rfl rfl rfl)) .n)<| .read rfl (.c (.put (fun E hE => .loadPA (lt1 rfl) (.tmp (hE.at (k := 0) rfl)) agg25 rfl rfl rfl rfl)) .n)<| .pure rfl (fun H => .put (fun E hE => .move (lt1 rfl) (.tmp (hE.at (k := 0) rfl))))<| .pure rfl (fun H => .put (fun E hE => .call0 (bw := false) (lt1 rfl) (c21 (β1 := β1) (β2 := false) (β3 := β4) n (R24.mk a0.Points ([] : List R93)) a2 hy_7) (.cons (.tmp (hE.at (k := 0) rfl)) (.agg (.cons (.ren rfl) (.cons (.nil) (.nil)))) (.cons (.tmp (hE.at (k := 1) rfl)) (.ren rfl) (.nil))) rfl))<| .pure rfl (fun H => .put (fun E hE => .call0 (bw := false) (lt1 rfl) (c20 (β1 := β1) (β2 := false) (β3 := false) n (R24.mk a0.Points ([] : List R93)) y_7 hy_8) (.cons (.tmp (hE.at (k := 0) rfl)) (.agg (.cons (.ren rfl) (.cons (.nil) (.nil)))) (.cons (.tmp (hE.at (k := 1) rfl)) (.ren rfl) (.nil))) rfl))<| .pure rfl (fun H => .put (fun E hE => .leq (lt1 rfl) (.tmp (hE.at (k := 0) rfl)) (.tmp (hE.at (k := 1) rfl))))<| .pure rfl (fun H => .put (fun E hE => .assign (lt1 rfl) (.tmp (hE.at (k := 0) rfl))))<| .nil _) (fun E hE => .c (DInv.at hE (k := 10) rfl rfl rfl)<| .n _) rfl ?_
        refine AWP.ret ?_
        obtain rfl := Option.some.inj h
        refine retJ (Res.vc (s' := ⟨[(6,.sc (.bool (decide (y_5.1 ≤ y_8))))],[]⟩) (VC.sub (.c rfl<| .n _) (.n _)) ?_)
        refine Res.drop (H := []) rfl ?_
        exact Res.of rfl (.cons (.tmp rfl) (.nil)) rfl rfl
end Go.AB
