import Derived.Test.YtpccmcepgllccaaProg
import Derived.Test.YtpccmcepgllccaaG9a
import Derived.KernelRfl
set_option linter.unusedVariables false
set_option maxRecDepth 20000
namespace Go.AB
open Go Go.Proofs
theorem c74 {β1 : Bool} (n : Nat) (a0_b : (List Int)) (a1 : Int) (a2_0_b0 : (List R38)) {r : (List Int)} (h : m74 n a0_b a1 a2_0_b0 = some r) : Spec Try.prog 74 [1,2] [.own 1 1 0 a0_b.length,.sc (.int .i64 a1),.clo (.func 63) [] [.ptr 2 0]] [(1,⟨3,true,a0_b.flatMap (encI .i64)⟩),(2,⟨30,false,[.rd β1 a2_0_b0.length (a2_0_b0.flatMap encR38)]⟩)] (.tup []) [(1,⟨3,true,r.flatMap (encI .i64)⟩),(2,⟨30,false,[.rd β1 a2_0_b0.length (a2_0_b0.flatMap encR38)]⟩)] := by
  refine Spec.of (fn := Try.f74) Try.func74 Try.ntmps74 rfl rfl (le1 rfl) (fun w0 Zs Zb T0 ι0 => ?_)
  unfold m74 at h
  refine AWP.seq ?_
  refine AWP.region (.cons (.assign (lt1 rfl) (.const _ _ _))<| ARun.nil _ _ _) ?_
  refine AWP.vc (s' := ⟨[(0,.own 1 1 0 a0_b.length),(1,.sc (.int .i64 a1)),(2,.clo (.func 63) [] [.ptr 2 0]),(6,.sc (.int .i64 (20 : Int)))],[(1,⟨3,true,a0_b.flatMap (encI .i64)⟩),(2,⟨30,false,[.rd β1 a2_0_b0.length (a2_0_b0.flatMap encR38)]⟩)]⟩) (VC.sub (.c rfl<| .c rfl<| .c rfl<| .c rfl<| .n _) (.c rfl<| .c rfl<| .n _)) ?_
  refine AWP.seq ?_
  refine AWP.region (.cons (.move (lt1 rfl) (.tmp rfl))<| .cons (.assign (lt1 rfl) (.const _ _ _))<| .cons (.assign (lt1 rfl) (.tmp rfl))<| ARun.nil _ _ _) ?_
  refine AWP.vc (s' := ⟨[(0,.own 1 1 0 a0_b.length),(1,.sc (.int .i64 a1)),(2,.clo (.func 63) [] [.ptr 2 0]),(6,.sc (.int .i64 (20 : Int))),(7,.sc (.int .i64 (0 : Int))),(8,.sc (.int .i64 (20 : Int)))],[(1,⟨3,true,a0_b.flatMap (encI .i64)⟩),(2,⟨30,false,[.rd β1 a2_0_b0.length (a2_0_b0.flatMap encR38)]⟩)]⟩) (VC.sub (.c rfl<| .c rfl<| .c rfl<| .c rfl<| .c rfl<| .c rfl<| .n _) (.c rfl<| .c rfl<| .n _)) ?_
  refine AWP.seq ?_
  refine AWP.joinB' (S := fun p_14 : Int × (List Int) => ⟨[(0,.own 1 1 0 p_14.2.length),(1,.sc (.int .i64 a1)),(2,.clo (.func 63) [] [.ptr 2 0]),(6,.sc (.int .i64 (20 : Int))),(7,.sc (.int .i64 p_14.1))],[(1,⟨3,true,p_14.2.flatMap (encI .i64)⟩),(2,⟨30,false,[.rd β1 a2_0_b0.length (a2_0_b0.flatMap encR38)]⟩)]⟩) h (fun p_14 h => ?_) (fun k_15 h => ?_)
  · refine AWP.seq ?_
    obtain ⟨y_16,hy_16,h⟩ := bindS h
    obtain ⟨ha_17,h⟩ := asrtS h
    refine AWP.region (.cons (.move (lt1 rfl) (.tmp rfl))<| .cons (.move (lt1 rfl) (.tmp rfl))<| .cons (.move (lt1 rfl) (.tmp rfl))<| .cons (.move (lt1 rfl) (.tmp rfl))<| .cons (.call (σ := sgT [(1,1),(2,2)]) (bw := false) (lt1 rfl) (c88 (β1 := β1) n p_14.2 p_14.1 a1 a2_0_b0 hy_16) (.cons (.tmp rfl) (.ren rfl) (.cons (.tmp rfl) (.ren rfl) (.cons (.tmp rfl) (.ren rfl) (.cons (.tmp rfl) (.ren rfl) (.nil))))) (CallOk.mk' (.c rfl (.c rfl (.n))) rfl))<| ARun.nil _ _ _) ?_
    refine AWP.vc (s' := ⟨[(0,.own 1 1 0 y_16.length),(1,.sc (.int .i64 a1)),(2,.clo (.func 63) [] [.ptr 2 0]),(6,.sc (.int .i64 (20 : Int)))],[(1,⟨3,true,y_16.flatMap (encI .i64)⟩),(2,⟨30,false,[.rd β1 a2_0_b0.length (a2_0_b0.flatMap encR38)]⟩)]⟩) (VC.sub (.c (lenC (Eq.symm (Eq.symm ha_17)) rfl)<| .c rfl<| .c rfl<| .c rfl<| .n _) (.c rfl<| .c rfl<| .n _)) ?_
    refine AWP.joinB' (S := fun p_21 : Unit => ⟨[],[(1,⟨3,true,y_16.flatMap (encI .i64)⟩),(2,⟨30,false,[.rd β1 a2_0_b0.length (a2_0_b0.flatMap encR38)]⟩)]⟩) h (fun p_21 h => ?_) (fun k_22 h => ?_)
    · obtain rfl := Option.some.inj h
      refine norJ (Res.vc (s' := ⟨[],[(1,⟨3,true,y_16.flatMap (encI .i64)⟩),(2,⟨30,false,[.rd β1 a2_0_b0.length (a2_0_b0.flatMap encR38)]⟩)]⟩) (VC.sub (.n _) (.c rfl<| .c rfl<| .n _)) ?_)
      refine Res.sub (H := [(1,⟨3,true,y_16.flatMap (encI .i64)⟩),(2,⟨30,false,[.rd β1 a2_0_b0.length (a2_0_b0.flatMap encR38)]⟩)]) (.c rfl<| .c rfl<| .n _) ?_
      exact Res.of rfl (.nil) rfl rfl
    · refine AWP.vc (s' := ⟨[(0,.own 1 1 0 y_16.length),(1,.sc (.int .i64 a1)),(2,.clo (.func 63) [] [.ptr 2 0]),(6,.sc (.int .i64 (20 : Int)))],[(1,⟨3,true,y_16.flatMap (encI .i64)⟩),(2,⟨30,false,[.rd β1 a2_0_b0.length (a2_0_b0.flatMap encR38)]⟩)]⟩) (VC.sub (.c rfl<| .c rfl<| .c rfl<| .c rfl<| .n _) (.c rfl<| .c rfl<| .n _)) ?_
      refine AWP.loopM (S := fun x_19 : Unit => ⟨[(0,.own 1 1 0 y_16.length),(1,.sc (.int .i64 a1)),(2,.clo (.func 63) [] [.ptr 2 0]),(6,.sc (.int .i64 (20 : Int)))],[(1,⟨3,true,y_16.flatMap (encI .i64)⟩),(2,⟨30,false,[.rd β1 a2_0_b0.length (a2_0_b0.flatMap encR38)]⟩)]⟩) (x := ()) (fun nx_20 x_19 h => ?_) h
      unfold m74_L2 at h
      refine AWP.seq ?_
      refine AWP.seq ?_
      refine AWP.region (.cons (.move (lt1 rfl) (.tmp rfl))<| .cons (.move (lt1 rfl) (.tmp rfl))<| .cons (.lss (lt1 rfl) (.tmp rfl) (.tmp rfl))<| ARun.nil _ _ _) ?_
      refine AWP.vc (s' := ⟨[(0,.own 1 1 0 y_16.length),(1,.sc (.int .i64 a1)),(2,.clo (.func 63) [] [.ptr 2 0]),(6,.sc (.int .i64 (20 : Int))),(30,.sc (.bool (decide ((20 : Int) < a1))))],[(1,⟨3,true,y_16.flatMap (encI .i64)⟩),(2,⟨30,false,[.rd β1 a2_0_b0.length (a2_0_b0.flatMap encR38)]⟩)]⟩) (VC.sub (.c rfl<| .c rfl<| .c rfl<| .c rfl<| .c rfl<| .n _) (.c rfl<| .c rfl<| .n _)) ?_
      refine AWP.cond (.tmp rfl) (fun hc => ?_) (fun hc => ?_)
      · have h := iteT hc h
        refine AWP.skip ?_
        refine AWP.block ?_
        refine AWP.seq ?_
        cases h
      · have h := iteF hc h
        refine AWP.exit ?_
        exact endJ () h (VC.sub (.n _) (.c rfl<| .c rfl<| .n _))
  · refine AWP.vc (s' := ⟨[(0,.own 1 1 0 a0_b.length),(1,.sc (.int .i64 a1)),(2,.clo (.func 63) [] [.ptr 2 0]),(6,.sc (.int .i64 (20 : Int))),(7,.sc (.int .i64 (0 : Int))),(8,.sc (.int .i64 (20 : Int)))],[(1,⟨3,true,a0_b.flatMap (encI .i64)⟩),(2,⟨30,false,[.rd β1 a2_0_b0.length (a2_0_b0.flatMap encR38)]⟩)]⟩) (VC.sub (.c rfl<| .c rfl<| .c rfl<| .c rfl<| .c rfl<| .c rfl<| .n _) (.c rfl<| .c rfl<| .n _)) ?_
    refine AWP.loopM (S := fun x_9 : Int × Int × (List Int) => ⟨[(0,.own 1 1 0 x_9.2.2.length),(1,.sc (.int .i64 a1)),(2,.clo (.func 63) [] [.ptr 2 0]),(6,.sc (.int .i64 (20 : Int))),(7,.sc (.int .i64 x_9.1)),(8,.sc (.int .i64 x_9.2.1))],[(1,⟨3,true,x_9.2.2.flatMap (encI .i64)⟩),(2,⟨30,false,[.rd β1 a2_0_b0.length (a2_0_b0.flatMap encR38)]⟩)]⟩) (x := ((0 : Int),(20 : Int),a0_b)) (fun nx_10 x_9 h => ?_) h
    unfold m74_L1 at h
    refine AWP.seq ?_
    refine AWP.seq ?_
    refine AWP.region (.cons (.move (lt1 rfl) (.tmp rfl))<| .cons (.move (lt1 rfl) (.tmp rfl))<| .cons (.leq (lt1 rfl) (.tmp rfl) (.tmp rfl))<| ARun.nil _ _ _) ?_
    refine AWP.vc (s' := ⟨[(0,.own 1 1 0 x_9.2.2.length),(1,.sc (.int .i64 a1)),(2,.clo (.func 63) [] [.ptr 2 0]),(6,.sc (.int .i64 (20 : Int))),(7,.sc (.int .i64 x_9.1)),(8,.sc (.int .i64 x_9.2.1)),(13,.sc (.bool (decide (x_9.2.1 ≤ a1))))],[(1,⟨3,true,x_9.2.2.flatMap (encI .i64)⟩),(2,⟨30,false,[.rd β1 a2_0_b0.length (a2_0_b0.flatMap encR38)]⟩)]⟩) (VC.sub (.c rfl<| .c rfl<| .c rfl<| .c rfl<| .c rfl<| .c rfl<| .c rfl<| .n _) (.c rfl<| .c rfl<| .n _)) ?_
    refine AWP.cond (.tmp rfl) (fun hc => ?_) (fun hc => ?_)
    · have h := iteT hc h
      refine AWP.skip ?_
      refine AWP.block ?_
      refine AWP.seq ?_
      obtain ⟨y_11,hy_11,h⟩ := bindS h
      obtain ⟨ha_12,h⟩ := asrtS h
      refine AWP.region (.cons (.move (lt1 rfl) (.tmp rfl))<| .cons (.move (lt1 rfl) (.tmp rfl))<| .cons (.move (lt1 rfl) (.tmp rfl))<| .cons (.move (lt1 rfl) (.tmp rfl))<| .cons (.call (σ := sgT [(1,1),(2,2)]) (bw := false) (lt1 rfl) (c88 (β1 := β1) n x_9.2.2 x_9.1 x_9.2.1 a2_0_b0 hy_11) (.cons (.tmp rfl) (.ren rfl) (.cons (.tmp rfl) (.ren rfl) (.cons (.tmp rfl) (.ren rfl) (.cons (.tmp rfl) (.ren rfl) (.nil))))) (CallOk.mk' (.c rfl (.c rfl (.n))) rfl))<| ARun.nil _ _ _) ?_
      refine AWP.vc (s' := ⟨[(0,.own 1 1 0 y_11.length),(1,.sc (.int .i64 a1)),(2,.clo (.func 63) [] [.ptr 2 0]),(6,.sc (.int .i64 (20 : Int))),(8,.sc (.int .i64 x_9.2.1))],[(1,⟨3,true,y_11.flatMap (encI .i64)⟩),(2,⟨30,false,[.rd β1 a2_0_b0.length (a2_0_b0.flatMap encR38)]⟩)]⟩) (VC.sub (.c (lenC (Eq.symm (Eq.symm ha_12)) rfl)<| .c rfl<| .c rfl<| .c rfl<| .c rfl<| .n _) (.c rfl<| .c rfl<| .n _)) ?_
      refine AWP.seq ?_
      refine AWP.region (.cons (.move (lt1 rfl) (.tmp rfl))<| .cons (.assign (lt1 rfl) (.tmp rfl))<| ARun.nil _ _ _) ?_
      refine AWP.vc (s' := ⟨[(0,.own 1 1 0 y_11.length),(1,.sc (.int .i64 a1)),(2,.clo (.func 63) [] [.ptr 2 0]),(6,.sc (.int .i64 (20 : Int))),(8,.sc (.int .i64 x_9.2.1)),(7,.sc (.int .i64 x_9.2.1))],[(1,⟨3,true,y_11.flatMap (encI .i64)⟩),(2,⟨30,false,[.rd β1 a2_0_b0.length (a2_0_b0.flatMap encR38)]⟩)]⟩) (VC.sub (.c rfl<| .c rfl<| .c rfl<| .c rfl<| .c rfl<| .c rfl<| .n _) (.c rfl<| .c rfl<| .n _)) ?_
      obtain ⟨t8_13,ht8_13,h⟩ := letS h
      refine AWP.region (.cons (.move (lt1 rfl) (.tmp rfl))<| .cons (.move (lt1 rfl) (.tmp rfl))<| .cons (.add (lt1 rfl) (.tmp rfl) (.tmp rfl))<| .cons (.assign (lt1 rfl) (.tmp rfl))<| ARun.nil _ _ _) ?_
      exact endJ (x_9.2.1,t8_13,y_11) h (by subst ht8_13; exact VC.sub (.c rfl<| .c rfl<| .c rfl<| .c rfl<| .c rfl<| .c rfl<| .n _) (.c rfl<| .c rfl<| .n _))
    · have h := iteF hc h
      refine AWP.exit ?_
      exact endJ (x_9.1,x_9.2.2) h (VC.sub (.c rfl<| .c rfl<| .c rfl<| .c rfl<| .c rfl<| .n _) (.c rfl<| .c rfl<| .n _))
theorem c62 {β1 : Bool} (n : Nat) (a0_b : (List Int)) (a1_0_b0 : (List R38)) {r : (List Int)} (h : m62 n a0_b a1_0_b0 = some r) : Spec Try.prog 62 [1,2] [.own 1 1 0 a0_b.length,.clo (.func 63) [] [.ptr 2 0]] [(1,⟨3,true,a0_b.flatMap (encI .i64)⟩),(2,⟨30,false,[.rd β1 a1_0_b0.length (a1_0_b0.flatMap encR38)]⟩)] (.tup []) [(1,⟨3,true,r.flatMap (encI .i64)⟩),(2,⟨30,false,[.rd β1 a1_0_b0.length (a1_0_b0.flatMap encR38)]⟩)] := by
  refine Spec.of (fn := Try.f62) Try.func62 Try.ntmps62 rfl rfl (le1 rfl) (fun w0 Zs Zb T0 ι0 => ?_)
  unfold m62 at h
  obtain ⟨y_1,hy_1,h⟩ := bindS h
  obtain ⟨ha_2,h⟩ := asrtS h
  refine AWP.region (.cons (.move (lt1 rfl) (.tmp rfl))<| .cons (.move (lt1 rfl) (.tmp rfl))<| .cons (.lenOwn (lt1 rfl) (.tmp rfl) Try.underlying26)<| .cons (.move (lt1 rfl) (.tmp rfl))<| .cons (.call (σ := sgT [(1,1),(2,2)]) (bw := false) (lt1 rfl) (c74 (β1 := β1) n a0_b (a0_b.length : Int) a1_0_b0 hy_1) (.cons (.tmp rfl) (.ren rfl) (.cons (.tmp rfl) (.ren rfl) (.cons (.tmp rfl) (.ren rfl) (.nil)))) (CallOk.mk' (.c rfl (.c rfl (.n))) rfl))<| ARun.nil _ _ _) ?_
  obtain rfl := Option.some.inj h
  refine norJ (Res.vc (s' := ⟨[],[(1,⟨3,true,y_1.flatMap (encI .i64)⟩),(2,⟨30,false,[.rd β1 a1_0_b0.length (a1_0_b0.flatMap encR38)]⟩)]⟩) (VC.sub (.n _) (.c rfl<| .c rfl<| .n _)) ?_)
  refine Res.sub (H := [(1,⟨3,true,y_1.flatMap (encI .i64)⟩),(2,⟨30,false,[.rd β1 a1_0_b0.length (a1_0_b0.flatMap encR38)]⟩)]) (.c rfl<| .c rfl<| .n _) ?_
  exact Res.of rfl (.nil) rfl rfl
theorem c67 {β1 : Bool} (n : Nat) (a0 : (List Int)) {r : Int} (h : m67 n a0 = some r) : Spec Try.prog 67 [] [.rd β1 a0.length (a0.flatMap (encI .i64))] [] (.sc (.int .i64 r)) [] := by
  refine Spec.of (fn := Try.f67) Try.func67 Try.ntmps67 rfl rfl (le1 rfl) (fun w0 Zs Zb T0 ι0 => ?_)
  unfold m67 at h
  refine AWP.seq ?_
  refine AWP.region (.cons (.assign (lt1 rfl) (.const _ _ _))<| ARun.nil _ _ _) ?_
  refine AWP.vc (s' := ⟨[(0,.rd β1 a0.length (a0.flatMap (encI .i64)))],[]⟩) (VC.sub (.c rfl<| .n _) (.n _)) ?_
  refine AWP.seq ?_
  refine AWP.region (.cons (.assign (lt1 rfl) (.const _ _ _))<| ARun.nil _ _ _) ?_
  refine AWP.vc (s' := ⟨[(0,.rd β1 a0.length (a0.flatMap (encI .i64))),(3,.sc (.int .i64 (0 : Int)))],[]⟩) (VC.sub (.c rfl<| .c rfl<| .n _) (.n _)) ?_
  refine AWP.seq ?_
  refine AWP.seq ?_
  refine AWP.region (.cons (.move (lt1 rfl) (.tmp rfl))<| .cons (.lenRd (lt1 rfl) (.tmp rfl) Try.underlying26)<| .cons (.move (lt1 rfl) (.const _ _ _))<| ARun.nil _ _ _) ?_
  refine AWP.vc (s' := ⟨[(3,.sc (.int .i64 (0 : Int))),(6,.rd β1 a0.length (a0.flatMap (encI .i64))),(7,.sc (.int .i64 (a0.length : Int))),(8,.sc (.int .i64 (0 : Int)))],[]⟩) (VC.sub (.c rfl<| .c rfl<| .c rfl<| .c rfl<| .n _) (.n _)) ?_
  refine AWP.joinB' (S := fun p_11 : Unit => ⟨[(3,.sc (.int .i64 (0 : Int)))],[]⟩) h (fun p_11 h => ?_) (fun k_12 h => ?_)
  · refine AWP.seq ?_
    refine AWP.region (.cons (.move (lt1 rfl) (.tmp rfl))<| .cons (.assign (lt1 rfl) (.tmp rfl))<| ARun.nil _ _ _) ?_
    refine AWP.ret ?_
    obtain rfl := Option.some.inj h
    refine retJ (Res.vc (s' := ⟨[(2,.sc (.int .i64 (0 : Int)))],[]⟩) (VC.sub (.c rfl<| .n _) (.n _)) ?_)
    refine Res.drop (H := []) rfl ?_
    exact Res.of rfl (.cons (.tmp rfl) (.nil)) rfl rfl
  · refine AWP.vc (s' := ⟨[(3,.sc (.int .i64 (0 : Int))),(6,.rd β1 a0.length (a0.flatMap (encI .i64))),(7,.sc (.int .i64 (a0.length : Int))),(8,.sc (.int .i64 (0 : Int)))],[]⟩) (VC.sub (.c rfl<| .c rfl<| .c rfl<| .c rfl<| .n _) (.n _)) ?_
    refine AWP.loopM (S := fun x_7 : Int => ⟨[(3,.sc (.int .i64 (0 : Int))),(6,.rd β1 a0.length (a0.flatMap (encI .i64))),(7,.sc (.int .i64 (a0.length : Int))),(8,.sc (.int .i64 x_7))],[]⟩) (x := (0 : Int)) (fun nx_8 x_7 h => ?_) h
    unfold m67_L1 at h
    refine AWP.seq ?_
    refine AWP.region (.cons (.lss (lt1 rfl) (.tmp rfl) (.tmp rfl))<| ARun.nil _ _ _) ?_
    refine AWP.vc (s' := ⟨[(3,.sc (.int .i64 (0 : Int))),(6,.rd β1 a0.length (a0.flatMap (encI .i64))),(7,.sc (.int .i64 (a0.length : Int))),(8,.sc (.int .i64 x_7)),(9,.sc (.bool (decide (x_7 < (a0.length : Int)))))],[]⟩) (VC.sub (.c rfl<| .c rfl<| .c rfl<| .c rfl<| .c rfl<| .n _) (.n _)) ?_
    refine AWP.seq ?_
    refine AWP.cond (.tmp rfl) (fun hc => ?_) (fun hc => ?_)
    · have h := iteT hc h
      refine AWP.skip ?_
      refine AWP.seq ?_
      refine AWP.block ?_
      refine AWP.seq ?_
      obtain ⟨y_9,hy_9,h⟩ := bindS h
      refine AWP.region (.cons (.indexRd (enc := (encI .i64)) (lt1 rfl) (.tmp rfl) (.tmp rfl) Try.underlying26 sz3 (encI_len .i64) rfl hy_9)<| .cons (.loadR (v := .sc (.int .i64 y_9)) (lt1 rfl) (.tmp rfl) one3 rfl)<| .cons (.assign (lt1 rfl) (.tmp rfl))<| ARun.nil _ _ _) ?_
      refine AWP.vc (s' := ⟨[(3,.sc (.int .i64 (0 : Int))),(6,.rd β1 a0.length (a0.flatMap (encI .i64))),(7,.sc (.int .i64 (a0.length : Int))),(8,.sc (.int .i64 x_7)),(5,.sc (.int .i64 y_9))],[]⟩) (VC.sub (.c rfl<| .c rfl<| .c rfl<| .c rfl<| .c rfl<| .n _) (.n _)) ?_
      refine AWP.seq ?_
      refine AWP.region (.cons (.move (lt1 rfl) (.tmp rfl))<| .cons (.move (lt1 rfl) (.tmp rfl))<| .cons (.neq (lt1 rfl) (.tmp rfl) (.tmp rfl))<| ARun.nil _ _ _) ?_
      refine AWP.vc (s' := ⟨[(3,.sc (.int .i64 (0 : Int))),(6,.rd β1 a0.length (a0.flatMap (encI .i64))),(7,.sc (.int .i64 (a0.length : Int))),(8,.sc (.int .i64 x_7)),(5,.sc (.int .i64 y_9)),(14,.sc (.bool (!decide (y_9 = (0 : Int)))))],[]⟩) (VC.sub (.c rfl<| .c rfl<| .c rfl<| .c rfl<| .c rfl<| .c rfl<| .n _) (.n _)) ?_
      refine AWP.cond (.tmp rfl) (fun hc => ?_) (fun hc => ?_)
      · have h := iteT hc h
        refine AWP.seq ?_
        refine AWP.region (.cons (.move (lt1 rfl) (.tmp rfl))<| .cons (.assign (lt1 rfl) (.tmp rfl))<| ARun.nil _ _ _) ?_
        refine AWP.ret ?_
        obtain rfl := Option.some.inj h
        refine retJ (Res.vc (s' := ⟨[(2,.sc (.int .i64 y_9))],[]⟩) (VC.sub (.c rfl<| .n _) (.n _)) ?_)
        refine Res.drop (H := []) rfl ?_
        exact Res.of rfl (.cons (.tmp rfl) (.nil)) rfl rfl
      · have h := iteF hc h
        refine AWP.skip ?_
        obtain ⟨t8_10,ht8_10,h⟩ := letS h
        refine AWP.region (.cons (.add (lt1 rfl) (.tmp rfl) (.const _ _ _))<| .cons (.move (lt1 rfl) (.tmp rfl))<| ARun.nil _ _ _) ?_
        exact endJ t8_10 h (by subst ht8_10; exact VC.sub (.c rfl<| .c rfl<| .c rfl<| .c rfl<| .n _) (.n _))
    · have h := iteF hc h
      refine AWP.exit ?_
      exact endJ () h (VC.sub (.c rfl<| .n _) (.n _))
theorem c66 (n : Nat) (a0 : Int) (a1 : Int) (a2_b0_b : (List Int)) {r : Int} (h : m66 n a0 a1 a2_b0_b = some r) : Spec Try.prog 66 [1,2] [.sc (.int .i64 a0),.sc (.int .i64 a1),.ptr 1 0] [(1,⟨26,false,[.own 2 1 0 a2_b0_b.length]⟩),(2,⟨3,true,a2_b0_b.flatMap (encI .i64)⟩)] (.sc (.int .i64 r)) [(1,⟨26,false,[.own 2 1 0 a2_b0_b.length]⟩),(2,⟨3,true,a2_b0_b.flatMap (encI .i64)⟩)] := by
  refine Spec.of (fn := Try.f66) Try.func66 Try.ntmps66 rfl rfl (le1 rfl) (fun w0 Zs Zb T0 ι0 => ?_)
  unfold m66 at h
  refine AWP.seq ?_
  refine AWP.region (.cons (.assign (lt1 rfl) (.const _ _ _))<| ARun.nil _ _ _) ?_
  refine AWP.vc (s' := ⟨[(0,.sc (.int .i64 a0)),(1,.sc (.int .i64 a1)),(2,.ptr 1 0)],[(1,⟨26,false,[.own 2 1 0 a2_b0_b.length]⟩),(2,⟨3,true,a2_b0_b.flatMap (encI .i64)⟩)]⟩) (VC.sub (.c rfl<| .c rfl<| .c rfl<| .n _) (.c rfl<| .c rfl<| .n _)) ?_
  refine AWP.seq ?_
  obtain ⟨y_1,hy_1,h⟩ := bindS h
  obtain ⟨y_2,hy_2,h⟩ := bindS h
  obtain ⟨y_3,hy_3,h⟩ := bindS h
  obtain ⟨y_4,hy_4,h⟩ := bindS h
  obtain ⟨y_5,hy_5,h⟩ := bindS h
  refine AWP.draw (s' := ⟨[(5,.sc (.int .i64 y_5))],[(1,⟨26,false,[.own 2 1 0 a2_b0_b.length]⟩),(2,⟨3,true,a2_b0_b.flatMap (encI .i64)⟩)]⟩) mixed [⟨0,.sc (.int .i64 a0),none,[]⟩,⟨1,.sc (.int .i64 a1),none,[]⟩,⟨2,.ptr 1 0,none,[]⟩,⟨6,.own 2 1 0 a2_b0_b.length,some 0,[]⟩,⟨7,.sc (.int .i64 a0),some 1,[]⟩,⟨8,.ptr 2 (0 + (a0).toNat * 1),some 2,[]⟩,⟨9,.sc (.int .i64 y_1),some 3,[]⟩,⟨10,.own 2 1 0 a2_b0_b.length,some 4,[]⟩,⟨11,.sc (.int .i64 a1),some 5,[]⟩,⟨12,.ptr 2 (0 + (a1).toNat * 1),some 6,[]⟩,⟨13,.sc (.int .i64 y_2),some 7,[]⟩,⟨14,.sc (.int .i64 y_3),some 8,[]⟩,⟨15,.sc (.int .i64 a0),some 9,[]⟩,⟨16,.sc (.int .i64 a1),some 10,[]⟩,⟨17,.sc (.int .i64 y_4),some 11,[]⟩,⟨18,.rd false ([y_3,y_4] : List Int).length (([y_3,y_4] : List Int).flatMap (encI .i64)),some 12,[]⟩,⟨19,.sc (.int .i64 y_5),some 13,[]⟩,⟨5,.sc (.int .i64 y_5),some 14,[]⟩] [⟨[2],0,0,some (6,.own 2 1 0 a2_b0_b.length),[]⟩,⟨[0],0,0,some (7,.sc (.int .i64 a0)),[]⟩,⟨[3,4],0,0,some (8,.ptr 2 (0 + (a0).toNat * 1)),[]⟩,⟨[5],0,0,some (9,.sc (.int .i64 y_1)),[]⟩,⟨[2],0,0,some (10,.own 2 1 0 a2_b0_b.length),[]⟩,⟨[1],0,0,some (11,.sc (.int .i64 a1)),[]⟩,⟨[7,8],0,0,some (12,.ptr 2 (0 + (a1).toNat * 1)),[]⟩,⟨[9],0,0,some (13,.sc (.int .i64 y_2)),[]⟩,⟨[6,10],0,0,some (14,.sc (.int .i64 y_3)),[]⟩,⟨[0],0,0,some (15,.sc (.int .i64 a0)),[]⟩,⟨[1],0,0,some (16,.sc (.int .i64 a1)),[]⟩,⟨[12,13],0,0,some (17,.sc (.int .i64 y_4)),[]⟩,⟨[11,14],0,0,some (18,.rd false ([y_3,y_4] : List Int).length (([y_3,y_4] : List Int).flatMap (encI .i64))),[]⟩,⟨[15],0,0,some (19,.sc (.int .i64 y_5)),[]⟩,⟨[16],0,0,some (5,.sc (.int .i64 y_5)),[]⟩] [] [[(1,⟨26,false,[.own 2 1 0 a2_b0_b.length]⟩),(2,⟨3,true,a2_b0_b.flatMap (encI .i64)⟩)]] [[],[],[0,1],[0,1,2],[],[],[4,5],[4,5,6],[0,1,2,3,4,5,6,7],[],[],[0,1,2,3,4,5,6,7,8,9,10],[0,1,2,3,4,5,6,7,8,9,10,11],[0,1,2,3,4,5,6,7,8,9,10,11,12],[0,1,2,3,4,5,6,7,8,9,10,11,12,13]] (by kernel_rfl) (by kernel_rfl) (BornL.ok (.o<| .o<| .o<| .b rfl rfl<| .b rfl rfl<| .b rfl rfl<| .b rfl rfl<| .b rfl rfl<| .b rfl rfl<| .b rfl rfl<| .b rfl rfl<| .b rfl rfl<| .b rfl rfl<| .b rfl rfl<| .b rfl rfl<| .b rfl rfl<| .b rfl rfl<| .b rfl rfl<| .n)) (BaseL.ok (.o rfl<| .o rfl<| .o rfl<| .b<| .b<| .b<| .b<| .b<| .b<| .b<| .b<| .b<| .b<| .b<| .b<| .b<| .b<| .b<| .n)) rfl (by decide) (allLt rfl) (.read rfl (.c (.put (fun E hE => .loadP (lt1 rfl) (.tmp (hE.at (k := 0) rfl)) one26 rfl rfl rfl)) .n)<| .pure rfl (fun H => .put (fun E hE => .move (lt1 rfl) (.tmp (hE.at (k := 0) rfl))))<| .read rfl (.c (.put (fun E hE => .idxOwn (lt1 rfl) (.tmp (hE.at (k := 0) rfl)) (.tmp (hE.at (k := 1) rfl)) Try.underlying26 sz3 rfl hy_1)) .n)<| .read rfl (.c (.put (fun E hE => .loadP (lt1 rfl) (.tmp (hE.at (k := 0) rfl)) one3 rfl (cell_at1 (encI_len .i64) hy_1) rfl)) .n)<| .read rfl (.c (.put (fun E hE => .loadP (lt1 rfl) (.tmp (hE.at (k := 0) rfl)) one26 rfl rfl rfl)) .n)<| .pure rfl (fun H => .put (fun E hE => .move (lt1 rfl) (.tmp (hE.at (k := 0) rfl))))<| .read rfl (.c (.put (fun E hE => .idxOwn (lt1 rfl) (.tmp (hE.at (k := 0) rfl)) (.tmp (hE.at (k := 1) rfl)) Try.underlying26 sz3 rfl hy_2)) .n)<| .read rfl (.c (.put (fun E hE => .loadP (lt1 rfl) (.tmp (hE.at (k := 0) rfl)) one3 rfl (cell_at1 (encI_len .i64) hy_2) rfl)) .n)<| .pure rfl (fun H => .put (fun E hE => .call0 (bw := false) (lt1 rfl) (c64 n y_1 y_2 hy_3) (.cons (.tmp (hE.at (k := 0) rfl)) (.ren rfl) (.cons (.tmp (hE.at (k := 1) rfl)) (.ren rfl) (.nil))) rfl))<| .pure rfl (fun H => .put (fun E hE => .move (lt1 rfl) (.tmp (hE.at (k := 0) rfl))))<| .pure rfl (fun H => .put (fun E hE => .move (lt1 rfl) (.tmp (hE.at (k := 0) rfl))))<| .pure rfl (fun H => .put (fun E hE => .call0 (bw := false) (lt1 rfl) (c64 n a0 a1 hy_4) (.cons (.tmp (hE.at (k := 0) rfl)) (.ren rfl) (.cons (.tmp (hE.at (k := 1) rfl)) (.ren rfl) (.nil))) rfl))<| .pure rfl (fun H => .put (fun E hE => .frzAny (fun t ht => AStep.buildSlice (t := t) (out := ([y_3,y_4] : List Int).flatMap (encI .i64)) (lt1 rfl) ht (.cons (.tmp (hE.at (k := 0) rfl)) (by first | exact ⟨rfl,rfl⟩ | rfl) (.cons (.tmp (hE.at (k := 1) rfl)) (by first | exact ⟨rfl,rfl⟩ | rfl) (.nil))) Try.underlying26 zero3 el3 (by decide) (by decide) rfl (still_all (encI_still .i64) _)) rfl (encI_len .i64)))<| .pure rfl (fun H => .put (fun E hE => .call0 (bw := false) (lt1 rfl) (c67 (β1 := false) n ([y_3,y_4] : List Int) hy_5) (.cons (.tmp (hE.at (k := 0) rfl)) (.ren rfl) (.nil)) rfl))<| .pure rfl (fun H => .put (fun E hE => .assign (lt1 rfl) (.tmp (hE.at (k := 0) rfl))))<| .nil _) (fun E hE => .c (DInv.at hE (k := 17) rfl rfl rfl)<| .n _) rfl ?_
  refine AWP.ret ?_
  obtain rfl := Option.some.inj h
  refine retJ (Res.vc (s' := ⟨[(5,.sc (.int .i64 y_5))],[(1,⟨26,false,[.own 2 1 0 a2_b0_b.length]⟩),(2,⟨3,true,a2_b0_b.flatMap (encI .i64)⟩)]⟩) (VC.sub (.c rfl<| .n _) (.c rfl<| .c rfl<| .n _)) ?_)
  refine Res.sub (H := [(1,⟨26,false,[.own 2 1 0 a2_b0_b.length]⟩),(2,⟨3,true,a2_b0_b.flatMap (encI .i64)⟩)]) (.c rfl<| .c rfl<| .n _) ?_
  exact Res.of rfl (.cons (.tmp rfl) (.nil)) rfl rfl
theorem c65 {β1 : Bool} (n : Nat) (a0 : (List Int)) (a1_0_b0_b : (List Int)) {r : Int} (h : m65 n a0 a1_0_b0_b = some r) : Spec Try.prog 65 [1,2] [.rd β1 a0.length (a0.flatMap (encI .i64)),.clo (.func 66) [] [.ptr 1 0]] [(1,⟨26,false,[.own 2 1 0 a1_0_b0_b.length]⟩),(2,⟨3,true,a1_0_b0_b.flatMap (encI .i64)⟩)] (.sc (.int .i64 r)) [(1,⟨26,false,[.own 2 1 0 a1_0_b0_b.length]⟩),(2,⟨3,true,a1_0_b0_b.flatMap (encI .i64)⟩)] := by
  refine Spec.of (fn := Try.f65) Try.func65 Try.ntmps65 rfl rfl (le1 rfl) (fun w0 Zs Zb T0 ι0 => ?_)
  unfold m65 at h
  refine AWP.seq ?_
  refine AWP.region (.cons (.assign (lt1 rfl) (.const _ _ _))<| ARun.nil _ _ _) ?_
  refine AWP.vc (s' := ⟨[(0,.rd β1 a0.length (a0.flatMap (encI .i64))),(1,.clo (.func 66) [] [.ptr 1 0])],[(1,⟨26,false,[.own 2 1 0 a1_0_b0_b.length]⟩),(2,⟨3,true,a1_0_b0_b.flatMap (encI .i64)⟩)]⟩) (VC.sub (.c rfl<| .c rfl<| .n _) (.c rfl<| .c rfl<| .n _)) ?_
  refine AWP.seq ?_
  refine AWP.seq ?_
  refine AWP.region (.cons (.move (lt1 rfl) (.tmp rfl))<| .cons (.lenRd (lt1 rfl) (.tmp rfl) Try.underlying26)<| .cons (.lss (lt1 rfl) (.tmp rfl) (.const _ _ _))<| ARun.nil _ _ _) ?_
  refine AWP.vc (s' := ⟨[(0,.rd β1 a0.length (a0.flatMap (encI .i64))),(1,.clo (.func 66) [] [.ptr 1 0]),(9,.sc (.bool (decide ((a0.length : Int) < (1 : Int)))))],[(1,⟨26,false,[.own 2 1 0 a1_0_b0_b.length]⟩),(2,⟨3,true,a1_0_b0_b.flatMap (encI .i64)⟩)]⟩) (VC.sub (.c rfl<| .c rfl<| .c rfl<| .n _) (.c rfl<| .c rfl<| .n _)) ?_
  refine AWP.cond (.tmp rfl) (fun hc => ?_) (fun hc => ?_)
  · have h := iteT hc h
    cases h
  · have h := iteF hc h
    refine AWP.skip ?_
    refine AWP.seq ?_
    obtain ⟨y_1,hy_1,h⟩ := bindS h
    refine AWP.region (.cons (.move (lt1 rfl) (.tmp rfl))<| .cons (.indexRd (enc := (encI .i64)) (lt1 rfl) (.tmp rfl) (.const _ _ _) Try.underlying26 sz3 (encI_len .i64) rfl hy_1)<| .cons (.loadR (v := .sc (.int .i64 y_1)) (lt1 rfl) (.tmp rfl) one3 rfl)<| .cons (.assign (lt1 rfl) (.tmp rfl))<| ARun.nil _ _ _) ?_
    refine AWP.vc (s' := ⟨[(0,.rd β1 a0.length (a0.flatMap (encI .i64))),(1,.clo (.func 66) [] [.ptr 1 0]),(5,.sc (.int .i64 y_1))],[(1,⟨26,false,[.own 2 1 0 a1_0_b0_b.length]⟩),(2,⟨3,true,a1_0_b0_b.flatMap (encI .i64)⟩)]⟩) (VC.sub (.c rfl<| .c rfl<| .c rfl<| .n _) (.c rfl<| .c rfl<| .n _)) ?_
    refine AWP.seq ?_
    refine AWP.seq ?_
    refine AWP.region (.cons (.assign (lt1 rfl) (.const _ _ _))<| ARun.nil _ _ _) ?_
    refine AWP.vc (s' := ⟨[(0,.rd β1 a0.length (a0.flatMap (encI .i64))),(1,.clo (.func 66) [] [.ptr 1 0]),(5,.sc (.int .i64 y_1)),(6,.sc (.int .i64 (1 : Int)))],[(1,⟨26,false,[.own 2 1 0 a1_0_b0_b.length]⟩),(2,⟨3,true,a1_0_b0_b.flatMap (encI .i64)⟩)]⟩) (VC.sub (.c rfl<| .c rfl<| .c rfl<| .c rfl<| .n _) (.c rfl<| .c rfl<| .n _)) ?_
    refine AWP.joinB' (S := fun p_24 : Int => ⟨[(5,.sc (.int .i64 p_24))],[(1,⟨26,false,[.own 2 1 0 a1_0_b0_b.length]⟩),(2,⟨3,true,a1_0_b0_b.flatMap (encI .i64)⟩)]⟩) h (fun p_24 h => ?_) (fun k_25 h => ?_)
    · refine AWP.seq ?_
      refine AWP.region (.cons (.move (lt1 rfl) (.tmp rfl))<| .cons (.assign (lt1 rfl) (.tmp rfl))<| ARun.nil _ _ _) ?_
      refine AWP.ret ?_
      obtain rfl := Option.some.inj h
      refine retJ (Res.vc (s' := ⟨[(4,.sc (.int .i64 p_24))],[(1,⟨26,false,[.own 2 1 0 a1_0_b0_b.length]⟩),(2,⟨3,true,a1_0_b0_b.flatMap (encI .i64)⟩)]⟩) (VC.sub (.c rfl<| .n _) (.c rfl<| .c rfl<| .n _)) ?_)
      refine Res.sub (H := [(1,⟨26,false,[.own 2 1 0 a1_0_b0_b.length]⟩),(2,⟨3,true,a1_0_b0_b.flatMap (encI .i64)⟩)]) (.c rfl<| .c rfl<| .n _) ?_
      exact Res.of rfl (.cons (.tmp rfl) (.nil)) rfl rfl
    · refine AWP.vc (s' := ⟨[(0,.rd β1 a0.length (a0.flatMap (encI .i64))),(1,.clo (.func 66) [] [.ptr 1 0]),(5,.sc (.int .i64 y_1)),(6,.sc (.int .i64 (1 : Int)))],[(1,⟨26,false,[.own 2 1 0 a1_0_b0_b.length]⟩),(2,⟨3,true,a1_0_b0_b.flatMap (encI .i64)⟩)]⟩) (VC.sub (.c rfl<| .c rfl<| .c rfl<| .c rfl<| .n _) (.c rfl<| .c rfl<| .n _)) ?_
      refine AWP.loopM (S := fun x_16 : Int × Int => ⟨[(0,.rd β1 a0.length (a0.flatMap (encI .i64))),(1,.clo (.func 66) [] [.ptr 1 0]),(5,.sc (.int .i64 x_16.1)),(6,.sc (.int .i64 x_16.2))],[(1,⟨26,false,[.own 2 1 0 a1_0_b0_b.length]⟩),(2,⟨3,true,a1_0_b0_b.flatMap (encI .i64)⟩)]⟩) (x := (y_1,(1 : Int))) (fun nx_17 x_16 h => ?_) h
      unfold m65_L1 at h
      refine AWP.seq ?_
      refine AWP.seq ?_
      refine AWP.region (.cons (.move (lt1 rfl) (.tmp rfl))<| .cons (.move (lt1 rfl) (.tmp rfl))<| .cons (.lenRd (lt1 rfl) (.tmp rfl) Try.underlying26)<| .cons (.lss (lt1 rfl) (.tmp rfl) (.tmp rfl))<| ARun.nil _ _ _) ?_
      refine AWP.vc (s' := ⟨[(0,.rd β1 a0.length (a0.flatMap (encI .i64))),(1,.clo (.func 66) [] [.ptr 1 0]),(5,.sc (.int .i64 x_16.1)),(6,.sc (.int .i64 x_16.2)),(17,.sc (.bool (decide (x_16.2 < (a0.length : Int)))))],[(1,⟨26,false,[.own 2 1 0 a1_0_b0_b.length]⟩),(2,⟨3,true,a1_0_b0_b.flatMap (encI .i64)⟩)]⟩) (VC.sub (.c rfl<| .c rfl<| .c rfl<| .c rfl<| .c rfl<| .n _) (.c rfl<| .c rfl<| .n _)) ?_
      refine AWP.cond (.tmp rfl) (fun hc => ?_) (fun hc => ?_)
      · have h := iteT hc h
        refine AWP.skip ?_
        refine AWP.seq ?_
        refine AWP.block ?_
        refine AWP.seq ?_
        obtain ⟨y_18,hy_18,h⟩ := bindS h
        obtain ⟨y_19,hy_19,h⟩ := bindS h
        refine AWP.region (.cons (.move (lt1 rfl) (.tmp rfl))<| .cons (.move (lt1 rfl) (.tmp rfl))<| .cons (.move (lt1 rfl) (.tmp rfl))<| .cons (.indexRd (enc := (encI .i64)) (lt1 rfl) (.tmp rfl) (.tmp rfl) Try.underlying26 sz3 (encI_len .i64) rfl hy_18)<| .cons (.loadR (v := .sc (.int .i64 y_18)) (lt1 rfl) (.tmp rfl) one3 rfl)<| .cons (.move (lt1 rfl) (.tmp rfl))<| .cons (.keep (bw := false) (AStep.callV (us' := []) (avs := [.sc (.int .i64 y_18),.sc (.int .i64 x_16.1)]) (cs' := [.ptr 1 0]) (σ := sgT [(1,1),(2,2)]) (bw := false) (lt1 rfl) (.tmp rfl) (c66 n y_18 x_16.1 a1_0_b0_b hy_19) (.nil) (.cons (.tmp rfl) (.ren rfl) (.cons (.tmp rfl) (.ren rfl) (.nil))) (.cons (.ren rfl) (.nil)) (CallOk.mk' (.c rfl (.c rfl (.n))) rfl) (fun _ h => by cases h)) (CallOk.mk' (.c rfl (.c rfl (.n))) rfl) rfl rfl)<| .cons (.lss (lt1 rfl) (.tmp rfl) (.const _ _ _))<| ARun.nil _ _ _) ?_
        refine AWP.vc (s' := ⟨[(0,.rd β1 a0.length (a0.flatMap (encI .i64))),(1,.clo (.func 66) [] [.ptr 1 0]),(5,.sc (.int .i64 x_16.1)),(6,.sc (.int .i64 x_16.2)),(27,.sc (.bool (decide (y_19 < (0 : Int)))))],[(1,⟨26,false,[.own 2 1 0 a1_0_b0_b.length]⟩),(2,⟨3,true,a1_0_b0_b.flatMap (encI .i64)⟩)]⟩) (VC.sub (.c rfl<| .c rfl<| .c rfl<| .c rfl<| .c rfl<| .n _) (.c rfl<| .c rfl<| .n _)) ?_
        refine AWP.join' (S := fun p_21 : Int => ⟨[(0,.rd β1 a0.length (a0.flatMap (encI .i64))),(1,.clo (.func 66) [] [.ptr 1 0]),(5,.sc (.int .i64 p_21)),(6,.sc (.int .i64 x_16.2))],[(1,⟨26,false,[.own 2 1 0 a1_0_b0_b.length]⟩),(2,⟨3,true,a1_0_b0_b.flatMap (encI .i64)⟩)]⟩) h (fun p_21 h => ?_) (fun k_22 h => ?_)
        · obtain ⟨t6_23,ht6_23,h⟩ := letS h
          refine AWP.region (.cons (.move (lt1 rfl) (.tmp rfl))<| .cons (.add (lt1 rfl) (.tmp rfl) (.const _ _ _))<| .cons (.assign (lt1 rfl) (.tmp rfl))<| ARun.nil _ _ _) ?_
          exact endJ (p_21,t6_23) h (by subst ht6_23; exact VC.sub (.c rfl<| .c rfl<| .c rfl<| .c rfl<| .n _) (.c rfl<| .c rfl<| .n _))
        · refine AWP.cond (.tmp rfl) (fun hc => ?_) (fun hc => ?_)
          · have h := iteT hc h
            obtain ⟨y_20,hy_20,h⟩ := bindS h
            refine AWP.region (.cons (.move (lt1 rfl) (.tmp rfl))<| .cons (.move (lt1 rfl) (.tmp rfl))<| .cons (.indexRd (enc := (encI .i64)) (lt1 rfl) (.tmp rfl) (.tmp rfl) Try.underlying26 sz3 (encI_len .i64) rfl hy_20)<| .cons (.loadR (v := .sc (.int .i64 y_20)) (lt1 rfl) (.tmp rfl) one3 rfl)<| .cons (.assign (lt1 rfl) (.tmp rfl))<| ARun.nil _ _ _) ?_
            exact endJ y_20 h (VC.sub (.c rfl<| .c rfl<| .c rfl<| .c rfl<| .n _) (.c rfl<| .c rfl<| .n _))
          · have h := iteF hc h
            refine AWP.skip ?_
            exact endJ x_16.1 h (VC.sub (.c rfl<| .c rfl<| .c rfl<| .c rfl<| .n _) (.c rfl<| .c rfl<| .n _))
      · have h := iteF hc h
        refine AWP.exit ?_
        exact endJ x_16.1 h (VC.sub (.c rfl<| .n _) (.c rfl<| .c rfl<| .n _))
theorem c69 (n : Nat) (a0 : Int) (a1_b0 : Int) {r : Bool} (h : m69 n a0 a1_b0 = some r) : Spec Try.prog 69 [1] [.sc (.int .i64 a0),.ptr 1 0] [(1,⟨3,false,[.sc (.int .i64 a1_b0)]⟩)] (.sc (.bool r)) [(1,⟨3,false,[.sc (.int .i64 a1_b0)]⟩)] := by
  refine Spec.of (fn := Try.f69) Try.func69 Try.ntmps69 rfl rfl (le1 rfl) (fun w0 Zs Zb T0 ι0 => ?_)
  unfold m69 at h
  refine AWP.seq ?_
  refine AWP.region (.cons (.assign (lt1 rfl) (.const _ _ _))<| ARun.nil _ _ _) ?_
  refine AWP.vc (s' := ⟨[(0,.sc (.int .i64 a0)),(1,.ptr 1 0)],[(1,⟨3,false,[.sc (.int .i64 a1_b0)]⟩)]⟩) (VC.sub (.c rfl<| .c rfl<| .n _) (.c rfl<| .n _)) ?_
  refine AWP.seq ?_
  refine AWP.region (.cons (.move (lt1 rfl) (.tmp rfl))<| .cons (.loadP (lt1 rfl) (.tmp rfl) one3 rfl rfl rfl)<| .cons (.eql (lt1 rfl) (.tmp rfl) (.tmp rfl))<| .cons (.assign (lt1 rfl) (.tmp rfl))<| ARun.nil _ _ _) ?_
  refine AWP.ret ?_
  obtain rfl := Option.some.inj h
  refine retJ (Res.vc (s' := ⟨[(3,.sc (.bool (decide (a0 = a1_b0))))],[(1,⟨3,false,[.sc (.int .i64 a1_b0)]⟩)]⟩) (VC.sub (.c rfl<| .n _) (.c rfl<| .n _)) ?_)
  refine Res.sub (H := [(1,⟨3,false,[.sc (.int .i64 a1_b0)]⟩)]) (.c rfl<| .n _) ?_
  exact Res.of rfl (.cons (.tmp rfl) (.nil)) rfl rfl
theorem c76 {β1 : Bool} (n : Nat) (a0 : (List Int)) (a1_0_b0 : Int) {r : Int} (h : m76 n a0 a1_0_b0 = some r) : Spec Try.prog 76 [1] [.rd β1 a0.length (a0.flatMap (encI .i64)),.clo (.func 69) [] [.ptr 1 0]] [(1,⟨3,false,[.sc (.int .i64 a1_0_b0)]⟩)] (.sc (.int .i64 r)) [(1,⟨3,false,[.sc (.int .i64 a1_0_b0)]⟩)] := by
  refine Spec.of (fn := Try.f76) Try.func76 Try.ntmps76 rfl rfl (le1 rfl) (fun w0 Zs Zb T0 ι0 => ?_)
  unfold m76 at h
  refine AWP.seq ?_
  refine AWP.region (.cons (.assign (lt1 rfl) (.const _ _ _))<| ARun.nil _ _ _) ?_
  refine AWP.vc (s' := ⟨[(0,.rd β1 a0.length (a0.flatMap (encI .i64))),(1,.clo (.func 69) [] [.ptr 1 0])],[(1,⟨3,false,[.sc (.int .i64 a1_0_b0)]⟩)]⟩) (VC.sub (.c rfl<| .c rfl<| .n _) (.c rfl<| .n _)) ?_
  refine AWP.seq ?_
  refine AWP.seq ?_
  refine AWP.region (.cons (.move (lt1 rfl) (.tmp rfl))<| .cons (.lenRd (lt1 rfl) (.tmp rfl) Try.underlying26)<| .cons (.move (lt1 rfl) (.const _ _ _))<| ARun.nil _ _ _) ?_
  refine AWP.vc (s' := ⟨[(0,.rd β1 a0.length (a0.flatMap (encI .i64))),(1,.clo (.func 69) [] [.ptr 1 0]),(7,.sc (.int .i64 (a0.length : Int))),(8,.sc (.int .i64 (0 : Int)))],[(1,⟨3,false,[.sc (.int .i64 a1_0_b0)]⟩)]⟩) (VC.sub (.c rfl<| .c rfl<| .c rfl<| .c rfl<| .n _) (.c rfl<| .n _)) ?_
  refine AWP.joinB' (S := fun p_14 : Unit => ⟨[],[(1,⟨3,false,[.sc (.int .i64 a1_0_b0)]⟩)]⟩) h (fun p_14 h => ?_) (fun k_15 h => ?_)
  · refine AWP.seq ?_
    refine AWP.region (.cons (.assign (lt1 rfl) (.const _ _ _))<| ARun.nil _ _ _) ?_
    refine AWP.ret ?_
    obtain rfl := Option.some.inj h
    refine retJ (Res.vc (s' := ⟨[(4,.sc (.int .i64 (-1 : Int)))],[(1,⟨3,false,[.sc (.int .i64 a1_0_b0)]⟩)]⟩) (VC.sub (.c rfl<| .n _) (.c rfl<| .n _)) ?_)
    refine Res.sub (H := [(1,⟨3,false,[.sc (.int .i64 a1_0_b0)]⟩)]) (.c rfl<| .n _) ?_
    exact Res.of rfl (.cons (.tmp rfl) (.nil)) rfl rfl
  · refine AWP.vc (s' := ⟨[(0,.rd β1 a0.length (a0.flatMap (encI .i64))),(1,.clo (.func 69) [] [.ptr 1 0]),(7,.sc (.int .i64 (a0.length : Int))),(8,.sc (.int .i64 (0 : Int)))],[(1,⟨3,false,[.sc (.int .i64 a1_0_b0)]⟩)]⟩) (VC.sub (.c rfl<| .c rfl<| .c rfl<| .c rfl<| .n _) (.c rfl<| .n _)) ?_
    refine AWP.loopM (S := fun x_9 : Int => ⟨[(0,.rd β1 a0.length (a0.flatMap (encI .i64))),(1,.clo (.func 69) [] [.ptr 1 0]),(7,.sc (.int .i64 (a0.length : Int))),(8,.sc (.int .i64 x_9))],[(1,⟨3,false,[.sc (.int .i64 a1_0_b0)]⟩)]⟩) (x := (0 : Int)) (fun nx_10 x_9 h => ?_) h
    unfold m76_L1 at h
    refine AWP.seq ?_
    refine AWP.region (.cons (.lss (lt1 rfl) (.tmp rfl) (.tmp rfl))<| ARun.nil _ _ _) ?_
    refine AWP.vc (s' := ⟨[(0,.rd β1 a0.length (a0.flatMap (encI .i64))),(1,.clo (.func 69) [] [.ptr 1 0]),(7,.sc (.int .i64 (a0.length : Int))),(8,.sc (.int .i64 x_9)),(9,.sc (.bool (decide (x_9 < (a0.length : Int)))))],[(1,⟨3,false,[.sc (.int .i64 a1_0_b0)]⟩)]⟩) (VC.sub (.c rfl<| .c rfl<| .c rfl<| .c rfl<| .c rfl<| .n _) (.c rfl<| .n _)) ?_
    refine AWP.seq ?_
    refine AWP.cond (.tmp rfl) (fun hc => ?_) (fun hc => ?_)
    · have h := iteT hc h
      refine AWP.skip ?_
      refine AWP.seq ?_
      refine AWP.block ?_
      refine AWP.seq ?_
      refine AWP.region (.cons (.move (lt1 rfl) (.tmp rfl))<| .cons (.assign (lt1 rfl) (.tmp rfl))<| ARun.nil _ _ _) ?_
      refine AWP.vc (s' := ⟨[(0,.rd β1 a0.length (a0.flatMap (encI .i64))),(1,.clo (.func 69) [] [.ptr 1 0]),(7,.sc (.int .i64 (a0.length : Int))),(8,.sc (.int .i64 x_9)),(5,.sc (.int .i64 x_9))],[(1,⟨3,false,[.sc (.int .i64 a1_0_b0)]⟩)]⟩) (VC.sub (.c rfl<| .c rfl<| .c rfl<| .c rfl<| .c rfl<| .n _) (.c rfl<| .n _)) ?_
      refine AWP.seq ?_
      obtain ⟨y_11,hy_11,h⟩ := bindS h
      obtain ⟨y_12,hy_12,h⟩ := bindS h
      refine AWP.region (.cons (.move (lt1 rfl) (.tmp rfl))<| .cons (.move (lt1 rfl) (.tmp rfl))<| .cons (.move (lt1 rfl) (.tmp rfl))<| .cons (.indexRd (enc := (encI .i64)) (lt1 rfl) (.tmp rfl) (.tmp rfl) Try.underlying26 sz3 (encI_len .i64) rfl hy_11)<| .cons (.loadR (v := .sc (.int .i64 y_11)) (lt1 rfl) (.tmp rfl) one3 rfl)<| .cons (.keep (bw := false) (AStep.callV (us' := []) (avs := [.sc (.int .i64 y_11)]) (cs' := [.ptr 1 0]) (σ := fun _ => 1) (bw := false) (lt1 rfl) (.tmp rfl) (c69 n y_11 a1_0_b0 hy_12) (.nil) (.cons (.tmp rfl) (.ren rfl) (.nil)) (.cons (.ren rfl) (.nil)) (CallOk.mk' (.c rfl (.n)) rfl) (fun _ h => by cases h)) (CallOk.mk' (.c rfl (.n)) rfl) rfl rfl)<| ARun.nil _ _ _) ?_
      refine AWP.vc (s' := ⟨[(0,.rd β1 a0.length (a0.flatMap (encI .i64))),(1,.clo (.func 69) [] [.ptr 1 0]),(7,.sc (.int .i64 (a0.length : Int))),(8,.sc (.int .i64 x_9)),(5,.sc (.int .i64 x_9)),(16,.sc (.bool y_12))],[(1,⟨3,false,[.sc (.int .i64 a1_0_b0)]⟩)]⟩) (VC.sub (.c rfl<| .c rfl<| .c rfl<| .c rfl<| .c rfl<| .c rfl<| .n _) (.c rfl<| .n _)) ?_
      refine AWP.cond (.tmp rfl) (fun hc => ?_) (fun hc => ?_)
      · have h := iteT hc h
        refine AWP.seq ?_
        refine AWP.region (.cons (.move (lt1 rfl) (.tmp rfl))<| .cons (.assign (lt1 rfl) (.tmp rfl))<| ARun.nil _ _ _) ?_
        refine AWP.ret ?_
        obtain rfl := Option.some.inj h
        refine retJ (Res.vc (s' := ⟨[(4,.sc (.int .i64 x_9))],[(1,⟨3,false,[.sc (.int .i64 a1_0_b0)]⟩)]⟩) (VC.sub (.c rfl<| .n _) (.c rfl<| .n _)) ?_)
        refine Res.sub (H := [(1,⟨3,false,[.sc (.int .i64 a1_0_b0)]⟩)]) (.c rfl<| .n _) ?_
        exact Res.of rfl (.cons (.tmp rfl) (.nil)) rfl rfl
      · have h := iteF hc h
        refine AWP.skip ?_
        obtain ⟨t8_13,ht8_13,h⟩ := letS h
        refine AWP.region (.cons (.add (lt1 rfl) (.tmp rfl) (.const _ _ _))<| .cons (.move (lt1 rfl) (.tmp rfl))<| ARun.nil _ _ _) ?_
        exact endJ t8_13 h (by subst ht8_13; exact VC.sub (.c rfl<| .c rfl<| .c rfl<| .c rfl<| .n _) (.c rfl<| .n _))
    · have h := iteF hc h
      refine AWP.exit ?_
      exact endJ () h (VC.sub (.n _) (.c rfl<| .n _))
theorem c68o (n : Nat) (a0_b : (List Int)) (a1_0_b0 : Int) {r : (List Int)} (h : m68o n a0_b a1_0_b0 = some r) : Spec Try.prog 68 [2] [.own 1 1 0 a0_b.length,.clo (.func 69) [] [.ptr 2 0]] [(1,⟨3,true,a0_b.flatMap (encI .i64)⟩),(2,⟨3,false,[.sc (.int .i64 a1_0_b0)]⟩)] (.own 1 1 0 r.length) [(2,⟨3,false,[.sc (.int .i64 a1_0_b0)]⟩),(1,⟨3,true,r.flatMap (encI .i64)⟩)] := by
  refine Spec.of (fn := Try.f68) Try.func68 Try.ntmps68 rfl rfl (le1 rfl) (fun w0 Zs Zb T0 ι0 => ?_)
  unfold m68o at h
  refine AWP.seq ?_
  refine AWP.region (.cons (.assign (lt1 rfl) (.const _ _ _))<| ARun.nil _ _ _) ?_
  refine AWP.vc (s' := ⟨[(0,.own 1 1 0 a0_b.length),(1,.clo (.func 69) [] [.ptr 2 0])],[(1,⟨3,true,a0_b.flatMap (encI .i64)⟩),(2,⟨3,false,[.sc (.int .i64 a1_0_b0)]⟩)]⟩) (VC.sub (.c rfl<| .c rfl<| .n _) (.c rfl<| .c rfl<| .n _)) ?_
  refine AWP.seq ?_
  obtain ⟨y_1,hy_1,h⟩ := bindS h
  refine AWP.region (.cons (.move (lt1 rfl) (.tmp rfl))<| .cons (.move (lt1 rfl) (.tmp rfl))<| .cons (.keep (bw := true) (AStep.call (σ := fun _ => 2) (bw := true) (lt1 rfl) (c76 (β1 := true) n a0_b a1_0_b0 hy_1) (.cons (.tmp rfl) (.lendRow rfl rfl (encI_len .i64) rfl) (.cons (.tmp rfl) (.ren rfl) (.nil))) (CallOk.mk' (.c rfl (.n)) rfl)) (CallOk.mk' (.c rfl (.n)) rfl) rfl rfl)<| .cons (.assign (lt1 rfl) (.tmp rfl))<| ARun.nil _ _ _) ?_
  refine AWP.vc (s' := ⟨[(0,.own 1 1 0 a0_b.length),(1,.clo (.func 69) [] [.ptr 2 0]),(5,.sc (.int .i64 y_1))],[(1,⟨3,true,a0_b.flatMap (encI .i64)⟩),(2,⟨3,false,[.sc (.int .i64 a1_0_b0)]⟩)]⟩) (VC.sub (.c rfl<| .c rfl<| .c rfl<| .n _) (.c rfl<| .c rfl<| .n _)) ?_
  refine AWP.seq ?_
  refine AWP.seq ?_
  refine AWP.region (.cons (.move (lt1 rfl) (.tmp rfl))<| .cons (.eql (lt1 rfl) (.tmp rfl) (.const _ _ _))<| ARun.nil _ _ _) ?_
  refine AWP.vc (s' := ⟨[(0,.own 1 1 0 a0_b.length),(1,.clo (.func 69) [] [.ptr 2 0]),(5,.sc (.int .i64 y_1)),(12,.sc (.bool (decide (y_1 = (-1 : Int)))))],[(1,⟨3,true,a0_b.flatMap (encI .i64)⟩),(2,⟨3,false,[.sc (.int .i64 a1_0_b0)]⟩)]⟩) (VC.sub (.c rfl<| .c rfl<| .c rfl<| .c rfl<| .n _) (.c rfl<| .c rfl<| .n _)) ?_
  refine AWP.cond (.tmp rfl) (fun hc => ?_) (fun hc => ?_)
  · have h := iteT hc h
    refine AWP.seq ?_
    refine AWP.region (.cons (.move (lt1 rfl) (.tmp rfl))<| .cons (.assign (lt1 rfl) (.tmp rfl))<| ARun.nil _ _ _) ?_
    refine AWP.ret ?_
    obtain rfl := Option.some.inj h
    refine retJ (Res.vc (s' := ⟨[(4,.own 1 1 0 a0_b.length)],[(1,⟨3,true,a0_b.flatMap (encI .i64)⟩),(2,⟨3,false,[.sc (.int .i64 a1_0_b0)]⟩)]⟩) (VC.sub (.c rfl<| .n _) (.c rfl<| .c rfl<| .n _)) ?_)
    refine Res.sub (H := [(1,⟨3,true,a0_b.flatMap (encI .i64)⟩),(2,⟨3,false,[.sc (.int .i64 a1_0_b0)]⟩)]) (.c rfl<| .c rfl<| .n _) ?_
    exact Res.of rfl (.cons (.tmp rfl) (.nil)) rfl rfl
  · have h := iteF hc h
    refine AWP.skip ?_
    refine AWP.seq ?_
    refine AWP.seq ?_
    obtain ⟨t6_2,ht6_2,h⟩ := letS h
    refine AWP.region (.cons (.move (lt1 rfl) (.tmp rfl))<| .cons (.add (lt1 rfl) (.tmp rfl) (.const _ _ _))<| .cons (.assign (lt1 rfl) (.tmp rfl))<| ARun.nil _ _ _) ?_
    refine AWP.vc (s' := ⟨[(0,.own 1 1 0 a0_b.length),(1,.clo (.func 69) [] [.ptr 2 0]),(5,.sc (.int .i64 y_1)),(6,.sc (.int .i64 t6_2))],[(1,⟨3,true,a0_b.flatMap (encI .i64)⟩),(2,⟨3,false,[.sc (.int .i64 a1_0_b0)]⟩)]⟩) (by subst ht6_2; exact VC.sub (.c rfl<| .c rfl<| .c rfl<| .c rfl<| .n _) (.c rfl<| .c rfl<| .n _)) ?_
    refine AWP.joinB' (S := fun p_31 : Int × (List Int) => ⟨[(0,.own 1 1 0 p_31.2.length),(5,.sc (.int .i64 p_31.1))],[(1,⟨3,true,p_31.2.flatMap (encI .i64)⟩),(2,⟨3,false,[.sc (.int .i64 a1_0_b0)]⟩)]⟩) h (fun p_31 h => ?_) (fun k_32 h => ?_)
    · refine AWP.seq ?_
      obtain ⟨l1_33,hl1_33,h⟩ := bindS h
      refine AWP.region (.cons (.move (lt1 rfl) (.tmp rfl))<| .cons (.move (lt1 rfl) (.tmp rfl))<| .cons (.slPart (lt1 rfl) (.tmp rfl) Try.underlying26 sz3 rfl (.some (.tmp rfl)) hl1_33)<| .cons (.clearTail (.tmp rfl) Try.underlying26 zero3 (by decide) rfl rfl (takeF (encI_len .i64) hl1_33))<| ARun.nil _ _ _) ?_
      refine AWP.vc (s' := ⟨[(0,.own 1 1 0 p_31.2.length),(5,.sc (.int .i64 p_31.1))],[(1,⟨3,true,l1_33.flatMap (encI .i64)⟩),(2,⟨3,false,[.sc (.int .i64 a1_0_b0)]⟩)]⟩) (VC.sub (.c rfl<| .c rfl<| .n _) (.c rfl<| .c rfl<| .n _)) ?_
      refine AWP.seq ?_
      refine AWP.region (.cons (.move (lt1 rfl) (.tmp rfl))<| .cons (.move (lt1 rfl) (.tmp rfl))<| .cons (.slHead (lt1 rfl) (.tmp rfl) Try.underlying26 sz3 rfl (.some (.tmp rfl)) hl1_33)<| .cons (.assign (lt1 rfl) (.tmp rfl))<| ARun.nil _ _ _) ?_
      refine AWP.ret ?_
      obtain rfl := Option.some.inj h
      refine retJ (Res.vc (s' := ⟨[(4,.own 1 1 0 l1_33.length)],[(1,⟨3,true,l1_33.flatMap (encI .i64)⟩),(2,⟨3,false,[.sc (.int .i64 a1_0_b0)]⟩)]⟩) (VC.sub (.c rfl<| .n _) (.c rfl<| .c rfl<| .n _)) ?_)
      refine Res.sub (H := [(1,⟨3,true,l1_33.flatMap (encI .i64)⟩),(2,⟨3,false,[.sc (.int .i64 a1_0_b0)]⟩)]) (.c rfl<| .c rfl<| .n _) ?_
      exact Res.of rfl (.cons (.tmp rfl) (.nil)) rfl rfl
    · refine AWP.vc (s' := ⟨[(0,.own 1 1 0 a0_b.length),(1,.clo (.func 69) [] [.ptr 2 0]),(5,.sc (.int .i64 y_1)),(6,.sc (.int .i64 t6_2))],[(1,⟨3,true,a0_b.flatMap (encI .i64)⟩),(2,⟨3,false,[.sc (.int .i64 a1_0_b0)]⟩)]⟩) (VC.sub (.c rfl<| .c rfl<| .c rfl<| .c rfl<| .n _) (.c rfl<| .c rfl<| .n _)) ?_
      refine AWP.loopM (S := fun x_21 : Int × Int × (List Int) => ⟨[(0,.own 1 1 0 x_21.2.2.length),(1,.clo (.func 69) [] [.ptr 2 0]),(5,.sc (.int .i64 x_21.1)),(6,.sc (.int .i64 x_21.2.1))],[(1,⟨3,true,x_21.2.2.flatMap (encI .i64)⟩),(2,⟨3,false,[.sc (.int .i64 a1_0_b0)]⟩)]⟩) (x := (y_1,t6_2,a0_b)) (fun nx_22 x_21 h => ?_) h
      unfold m68o_L1 at h
      refine AWP.seq ?_
      refine AWP.seq ?_
      refine AWP.region (.cons (.move (lt1 rfl) (.tmp rfl))<| .cons (.move (lt1 rfl) (.tmp rfl))<| .cons (.lenOwn (lt1 rfl) (.tmp rfl) Try.underlying26)<| .cons (.lss (lt1 rfl) (.tmp rfl) (.tmp rfl))<| ARun.nil _ _ _) ?_
      refine AWP.vc (s' := ⟨[(0,.own 1 1 0 x_21.2.2.length),(1,.clo (.func 69) [] [.ptr 2 0]),(5,.sc (.int .i64 x_21.1)),(6,.sc (.int .i64 x_21.2.1)),(19,.sc (.bool (decide (x_21.2.1 < (x_21.2.2.length : Int)))))],[(1,⟨3,true,x_21.2.2.flatMap (encI .i64)⟩),(2,⟨3,false,[.sc (.int .i64 a1_0_b0)]⟩)]⟩) (VC.sub (.c rfl<| .c rfl<| .c rfl<| .c rfl<| .c rfl<| .n _) (.c rfl<| .c rfl<| .n _)) ?_
      refine AWP.cond (.tmp rfl) (fun hc => ?_) (fun hc => ?_)
      · have h := iteT hc h
        refine AWP.skip ?_
        refine AWP.seq ?_
        refine AWP.block ?_
        refine AWP.seq ?_
        obtain ⟨y_23,hy_23,h⟩ := bindS h
        refine AWP.region (.cons (.move (lt1 rfl) (.tmp rfl))<| .cons (.move (lt1 rfl) (.tmp rfl))<| .cons (.idxOwn (lt1 rfl) (.tmp rfl) (.tmp rfl) Try.underlying26 sz3 rfl hy_23)<| .cons (.loadP (lt1 rfl) (.tmp rfl) one3 rfl (cell_at1 (encI_len .i64) hy_23) rfl)<| .cons (.assign (lt1 rfl) (.tmp rfl))<| ARun.nil _ _ _) ?_
        refine AWP.vc (s' := ⟨[(0,.own 1 1 0 x_21.2.2.length),(1,.clo (.func 69) [] [.ptr 2 0]),(5,.sc (.int .i64 x_21.1)),(6,.sc (.int .i64 x_21.2.1)),(7,.sc (.int .i64 y_23))],[(1,⟨3,true,x_21.2.2.flatMap (encI .i64)⟩),(2,⟨3,false,[.sc (.int .i64 a1_0_b0)]⟩)]⟩) (VC.sub (.c rfl<| .c rfl<| .c rfl<| .c rfl<| .c rfl<| .n _) (.c rfl<| .c rfl<| .n _)) ?_
        refine AWP.seq ?_
        obtain ⟨y_24,hy_24,h⟩ := bindS h
        refine AWP.region (.cons (.move (lt1 rfl) (.tmp rfl))<| .cons (.move (lt1 rfl) (.tmp rfl))<| .cons (.keep (bw := false) (AStep.callV (us' := []) (avs := [.sc (.int .i64 y_23)]) (cs' := [.ptr 1 0]) (σ := fun _ => 2) (bw := false) (lt1 rfl) (.tmp rfl) (c69 n y_23 a1_0_b0 hy_24) (.nil) (.cons (.tmp rfl) (.ren rfl) (.nil)) (.cons (.ren rfl) (.nil)) (CallOk.mk' (.c rfl (.n)) rfl) (fun _ h => by cases h)) (CallOk.mk' (.c rfl (.n)) rfl) rfl rfl)<| .cons (.not (lt1 rfl) (.tmp rfl))<| ARun.nil _ _ _) ?_
        refine AWP.vc (s' := ⟨[(0,.own 1 1 0 x_21.2.2.length),(1,.clo (.func 69) [] [.ptr 2 0]),(5,.sc (.int .i64 x_21.1)),(6,.sc (.int .i64 x_21.2.1)),(7,.sc (.int .i64 y_23)),(29,.sc (.bool (!y_24)))],[(1,⟨3,true,x_21.2.2.flatMap (encI .i64)⟩),(2,⟨3,false,[.sc (.int .i64 a1_0_b0)]⟩)]⟩) (VC.sub (.c rfl<| .c rfl<| .c rfl<| .c rfl<| .c rfl<| .c rfl<| .n _) (.c rfl<| .c rfl<| .n _)) ?_
        refine AWP.join' (S := fun p_28 : Int × (List Int) => ⟨[(0,.own 1 1 0 p_28.2.length),(1,.clo (.func 69) [] [.ptr 2 0]),(5,.sc (.int .i64 p_28.1)),(6,.sc (.int .i64 x_21.2.1))],[(1,⟨3,true,p_28.2.flatMap (encI .i64)⟩),(2,⟨3,false,[.sc (.int .i64 a1_0_b0)]⟩)]⟩) h (fun p_28 h => ?_) (fun k_29 h => ?_)
        · obtain ⟨t6_30,ht6_30,h⟩ := letS h
          refine AWP.region (.cons (.move (lt1 rfl) (.tmp rfl))<| .cons (.add (lt1 rfl) (.tmp rfl) (.const _ _ _))<| .cons (.assign (lt1 rfl) (.tmp rfl))<| ARun.nil _ _ _) ?_
          exact endJ (p_28.1,t6_30,p_28.2) h (by subst ht6_30; exact VC.sub (.c rfl<| .c rfl<| .c rfl<| .c rfl<| .n _) (.c rfl<| .c rfl<| .n _))
        · refine AWP.cond (.tmp rfl) (fun hc => ?_) (fun hc => ?_)
          · have h := iteT hc h
            refine AWP.seq ?_
            obtain ⟨y_25,hy_25,h⟩ := bindS h
            obtain ⟨l1_26,hl1_26,h⟩ := bindS h
            refine AWP.region (.cons (.move (lt1 rfl) (.tmp rfl))<| .cons (.move (lt1 rfl) (.tmp rfl))<| .cons (.move (lt1 rfl) (.tmp rfl))<| .cons (.idxOwn (lt1 rfl) (.tmp rfl) (.tmp rfl) Try.underlying26 sz3 rfl hy_25)<| .cons (.storeP (.tmp rfl) (.tmp rfl) sz3 rfl (lt_at1 (encI_len .i64) hy_25) rfl (fun _ => rfl) (set_at1 (encI_len .i64) hl1_26 rfl))<| ARun.nil _ _ _) ?_
            refine AWP.vc (s' := ⟨[(0,.own 1 1 0 l1_26.length),(1,.clo (.func 69) [] [.ptr 2 0]),(5,.sc (.int .i64 x_21.1)),(6,.sc (.int .i64 x_21.2.1))],[(1,⟨3,true,l1_26.flatMap (encI .i64)⟩),(2,⟨3,false,[.sc (.int .i64 a1_0_b0)]⟩)]⟩) (VC.sub (.c (lenC (Eq.symm (setLen hl1_26)) rfl)<| .c rfl<| .c rfl<| .c rfl<| .n _) (.c rfl<| .c rfl<| .n _)) ?_
            obtain ⟨t5_27,ht5_27,h⟩ := letS h
            refine AWP.region (.cons (.move (lt1 rfl) (.tmp rfl))<| .cons (.add (lt1 rfl) (.tmp rfl) (.const _ _ _))<| .cons (.assign (lt1 rfl) (.tmp rfl))<| ARun.nil _ _ _) ?_
            exact endJ (t5_27,l1_26) h (by subst ht5_27; exact VC.sub (.c rfl<| .c rfl<| .c rfl<| .c rfl<| .n _) (.c rfl<| .c rfl<| .n _))
          · have h := iteF hc h
            refine AWP.skip ?_
            exact endJ (x_21.1,x_21.2.2) h (VC.sub (.c rfl<| .c rfl<| .c rfl<| .c rfl<| .n _) (.c rfl<| .c rfl<| .n _))
      · have h := iteF hc h
        refine AWP.exit ?_
        exact endJ (x_21.1,x_21.2.2) h (VC.sub (.c rfl<| .c rfl<| .n _) (.c rfl<| .c rfl<| .n _))
theorem c50 {β1 : Bool} (n : Nat) (a0 : (List R38)) {r : (List Int)} (h : m50 n a0 = some r) : Spec Try.prog 50 [] [.rd β1 a0.length (a0.flatMap encR38)] [] (.rd false r.length (r.flatMap (encI .i64))) [] := by
  refine Spec.of (fn := Try.f50) Try.func50 Try.ntmps50 rfl rfl (le1 rfl) (fun w0 Zs Zb T0 ι0 => ?_)
  unfold m50 at h
  refine AWP.seq ?_
  refine AWP.region (.cons (.box (t := 1) (n := 1) (lt1 rfl) (nm rfl) (.tmp rfl) (by first | exact ⟨rfl,rfl⟩ | rfl) rfl)<| .cons (.assign (lt1 rfl) (.const _ _ _))<| ARun.nil _ _ _) ?_
  refine AWP.vc (s' := ⟨[(1,.ptr 1 0)],[(1,⟨30,false,[.rd β1 a0.length (a0.flatMap encR38)]⟩)]⟩) (VC.sub (.c rfl<| .n _) (.c rfl<| .n _)) ?_
  refine AWP.seq ?_
  obtain ⟨l2_1,hl2_1,h⟩ := bindS h
  refine AWP.region (.cons (.loadP (lt1 rfl) (.tmp rfl) one30 rfl rfl rfl)<| .cons (.lenRd (lt1 rfl) (.tmp rfl) Try.underlying30)<| .cons (.mkS (enc := (encI .i64)) (t := 2) (lt1 rfl) (nm rfl) (.tmp rfl) (.tmp rfl) Try.underlying26 zero3 el3 rfl (encI_len .i64) (by decide) hl2_1)<| .cons (.assign (lt1 rfl) (.tmp rfl))<| ARun.nil _ _ _) ?_
  refine AWP.vc (s' := ⟨[(1,.ptr 1 0),(3,.own 2 1 0 l2_1.length)],[(2,⟨3,true,l2_1.flatMap (encI .i64)⟩),(1,⟨30,false,[.rd β1 a0.length (a0.flatMap encR38)]⟩)]⟩) (VC.sub (.c rfl<| .c rfl<| .n _) (.c rfl<| .c rfl<| .n _)) ?_
  refine AWP.seq ?_
  refine AWP.seq ?_
  refine AWP.region (.cons (.move (lt1 rfl) (.tmp rfl))<| .cons (.lenOwn (lt1 rfl) (.tmp rfl) Try.underlying26)<| .cons (.move (lt1 rfl) (.const _ _ _))<| ARun.nil _ _ _) ?_
  refine AWP.vc (s' := ⟨[(1,.ptr 1 0),(3,.own 2 1 0 l2_1.length),(17,.sc (.int .i64 (l2_1.length : Int))),(18,.sc (.int .i64 (0 : Int)))],[(2,⟨3,true,l2_1.flatMap (encI .i64)⟩),(1,⟨30,false,[.rd β1 a0.length (a0.flatMap encR38)]⟩)]⟩) (VC.sub (.c rfl<| .c rfl<| .c rfl<| .c rfl<| .n _) (.c rfl<| .c rfl<| .n _)) ?_
  refine AWP.joinB' (S := fun p_15 : (List Int) => ⟨[(1,.ptr 1 0),(3,.own 2 1 0 p_15.length)],[(1,⟨30,false,[.rd β1 a0.length (a0.flatMap encR38)]⟩),(2,⟨3,true,p_15.flatMap (encI .i64)⟩)]⟩) h (fun p_15 h => ?_) (fun k_16 h => ?_)
  · refine AWP.seq ?_
    obtain ⟨y_17,hy_17,h⟩ := bindS h
    obtain ⟨ha_18,h⟩ := asrtS h
    refine AWP.region (.cons (.move (lt1 rfl) (.tmp rfl))<| .cons (.makeFunc (lt1 rfl) (.nil) (.cons (.tmp rfl) (.nil)))<| .cons (.call (σ := sgT [(1,2),(2,1)]) (bw := false) (lt1 rfl) (c62 (β1 := β1) n p_15 a0 hy_17) (.cons (.tmp rfl) (.ren rfl) (.cons (.tmp rfl) (.ren rfl) (.nil))) (CallOk.mk' (.c rfl (.c rfl (.n))) rfl))<| ARun.nil _ _ _) ?_
    refine AWP.vc (s' := ⟨[(1,.ptr 1 0),(3,.own 2 1 0 y_17.length)],[(2,⟨3,true,y_17.flatMap (encI .i64)⟩),(1,⟨30,false,[.rd β1 a0.length (a0.flatMap encR38)]⟩)]⟩) (VC.sub (.c rfl<| .c (lenC (Eq.symm (Eq.symm ha_18)) rfl)<| .n _) (.c rfl<| .c rfl<| .n _)) ?_
    refine AWP.seq ?_
    obtain ⟨l3_19,hl3_19,h⟩ := bindS h
    refine AWP.region (.cons (.loadP (lt1 rfl) (.tmp rfl) one30 rfl rfl rfl)<| .cons (.lenRd (lt1 rfl) (.tmp rfl) Try.underlying30)<| .cons (.mkS (enc := (encI .i64)) (t := 3) (lt1 rfl) (nm rfl) (.tmp rfl) (.tmp rfl) Try.underlying26 zero3 el3 rfl (encI_len .i64) (by decide) hl3_19)<| .cons (.alloc (t := 4) (k := ⟨26,false,[.sc (.slice none 0 0)]⟩) (lt1 rfl) (nm rfl) zero26 rfl rfl)<| .cons (.storeP (.tmp rfl) (.tmp rfl) sz26 rfl (lt1 rfl) rfl (by intro h; cases h) rfl)<| ARun.nil _ _ _) ?_
    refine AWP.vc (s' := ⟨[(1,.ptr 1 0),(3,.own 2 1 0 y_17.length),(5,.ptr 4 0)],[(4,⟨26,false,[.own 3 1 0 l3_19.length]⟩),(3,⟨3,true,l3_19.flatMap (encI .i64)⟩),(2,⟨3,true,y_17.flatMap (encI .i64)⟩),(1,⟨30,false,[.rd β1 a0.length (a0.flatMap encR38)]⟩)]⟩) (VC.sub (.c rfl<| .c rfl<| .c rfl<| .n _) (.c rfl<| .c rfl<| .c rfl<| .c rfl<| .n _)) ?_
    refine AWP.seq ?_
    refine AWP.region (.cons (.assign (lt1 rfl) (.const _ _ _))<| .cons (.assign (lt1 rfl) (.const _ _ _))<| ARun.nil _ _ _) ?_
    refine AWP.vc (s' := ⟨[(1,.ptr 1 0),(3,.own 2 1 0 y_17.length),(5,.ptr 4 0),(6,.sc (.slice none 0 0)),(7,.sc (.slice none 0 0))],[(4,⟨26,false,[.own 3 1 0 l3_19.length]⟩),(3,⟨3,true,l3_19.flatMap (encI .i64)⟩),(2,⟨3,true,y_17.flatMap (encI .i64)⟩),(1,⟨30,false,[.rd β1 a0.length (a0.flatMap encR38)]⟩)]⟩) (VC.sub (.c rfl<| .c rfl<| .c rfl<| .c rfl<| .c rfl<| .n _) (.c rfl<| .c rfl<| .c rfl<| .c rfl<| .n _)) ?_
    refine AWP.seq ?_
    refine AWP.region (.cons (.assign (lt1 rfl) (.const _ _ _))<| .cons (.assign (lt1 rfl) (.const _ _ _))<| ARun.nil _ _ _) ?_
    refine AWP.vc (s' := ⟨[(1,.ptr 1 0),(3,.own 2 1 0 y_17.length),(5,.ptr 4 0),(6,.sc (.slice none 0 0)),(7,.sc (.slice none 0 0)),(8,.sc (.int .i64 (0 : Int))),(9,.sc (.int .i64 (0 : Int)))],[(4,⟨26,false,[.own 3 1 0 l3_19.length]⟩),(3,⟨3,true,l3_19.flatMap (encI .i64)⟩),(2,⟨3,true,y_17.flatMap (encI .i64)⟩),(1,⟨30,false,[.rd β1 a0.length (a0.flatMap encR38)]⟩)]⟩) (VC.sub (.c rfl<| .c rfl<| .c rfl<| .c rfl<| .c rfl<| .c rfl<| .c rfl<| .n _) (.c rfl<| .c rfl<| .c rfl<| .c rfl<| .n _)) ?_
    refine AWP.seq ?_
    refine AWP.joinB' (S := fun p_177 : (List Int) => ⟨[(7,.own 6 1 0 p_177.length)],[(6,⟨3,true,p_177.flatMap (encI .i64)⟩)]⟩) h (fun p_177 h => ?_) (fun k_178 h => ?_)
    · refine AWP.seq ?_
      refine AWP.region (.cons (.move (lt1 rfl) (.tmp rfl))<| .cons (.assign (lt1 rfl) (.tmp rfl))<| ARun.nil _ _ _) ?_
      refine AWP.ret ?_
      obtain rfl := Option.some.inj h
      refine retJ (Res.vc (s' := ⟨[(2,.rd false p_177.length (p_177.flatMap (encI .i64)))],[]⟩) (VC.trans (VC.frz (d := 2) (t := 6) rfl rfl (encI_len .i64)) (VC.sub (.c rfl<| .n _) (.n _))) ?_)
      refine Res.drop (H := []) rfl ?_
      exact Res.of rfl (.cons (.tmp rfl) (.nil)) rfl rfl
    · refine AWP.vc (VC.nilOwn (d := 6) (t := 5) (sz := 1) (E := 3) rfl (nm rfl)) ?_
      refine AWP.vc (VC.nilOwn (d := 7) (t := 6) (sz := 1) (E := 3) rfl (nm rfl)) ?_
      refine AWP.vc (s' := ⟨[(1,.ptr 1 0),(3,.own 2 1 0 y_17.length),(5,.ptr 4 0),(6,.own 5 1 0 ([] : List Int).length),(7,.own 6 1 0 ([] : List Int).length),(8,.sc (.int .i64 (0 : Int))),(9,.sc (.int .i64 (0 : Int)))],[(1,⟨30,false,[.rd β1 a0.length (a0.flatMap encR38)]⟩),(2,⟨3,true,y_17.flatMap (encI .i64)⟩),(4,⟨26,false,[.own 3 1 0 l3_19.length]⟩),(5,⟨3,true,([] : List Int).flatMap (encI .i64)⟩),(6,⟨3,true,([] : List Int).flatMap (encI .i64)⟩),(3,⟨3,true,l3_19.flatMap (encI .i64)⟩)]⟩) (VC.sub (.c rfl<| .c rfl<| .c rfl<| .c rfl<| .c rfl<| .c rfl<| .c rfl<| .n _) (.c rfl<| .c rfl<| .c rfl<| .c rfl<| .c rfl<| .c rfl<| .n _)) ?_
      refine AWP.loopM (S := fun x_124 : Int × Int × (List Int) × (List Int) × (List Int) => ⟨[(1,.ptr 1 0),(3,.own 2 1 0 y_17.length),(5,.ptr 4 0),(6,.own 5 1 0 x_124.2.2.1.length),(7,.own 6 1 0 x_124.2.2.2.1.length),(8,.sc (.int .i64 x_124.1)),(9,.sc (.int .i64 x_124.2.1))],[(1,⟨30,false,[.rd β1 a0.length (a0.flatMap encR38)]⟩),(2,⟨3,true,y_17.flatMap (encI .i64)⟩),(4,⟨26,false,[.own 3 1 0 x_124.2.2.2.2.length]⟩),(5,⟨3,true,x_124.2.2.1.flatMap (encI .i64)⟩),(6,⟨3,true,x_124.2.2.2.1.flatMap (encI .i64)⟩),(3,⟨3,true,x_124.2.2.2.2.flatMap (encI .i64)⟩)]⟩) (x := ((0 : Int),(0 : Int),([] : List Int),([] : List Int),l3_19)) (fun nx_125 x_124 h => ?_) h
      unfold m50_L4 at h
      refine AWP.seq ?_
      refine AWP.seq ?_
      refine AWP.region (.cons (.move (lt1 rfl) (.tmp rfl))<| .cons (.lenOwn (lt1 rfl) (.tmp rfl) Try.underlying26)<| .cons (.loadP (lt1 rfl) (.tmp rfl) one30 rfl rfl rfl)<| .cons (.lenRd (lt1 rfl) (.tmp rfl) Try.underlying30)<| .cons (.lss (lt1 rfl) (.tmp rfl) (.tmp rfl))<| ARun.nil _ _ _) ?_
      refine AWP.vc (s' := ⟨[(1,.ptr 1 0),(3,.own 2 1 0 y_17.length),(5,.ptr 4 0),(6,.own 5 1 0 x_124.2.2.1.length),(7,.own 6 1 0 x_124.2.2.2.1.length),(8,.sc (.int .i64 x_124.1)),(9,.sc (.int .i64 x_124.2.1)),(36,.sc (.bool (decide ((x_124.2.2.2.1.length : Int) < (a0.length : Int)))))],[(1,⟨30,false,[.rd β1 a0.length (a0.flatMap encR38)]⟩),(2,⟨3,true,y_17.flatMap (encI .i64)⟩),(4,⟨26,false,[.own 3 1 0 x_124.2.2.2.2.length]⟩),(5,⟨3,true,x_124.2.2.1.flatMap (encI .i64)⟩),(6,⟨3,true,x_124.2.2.2.1.flatMap (encI .i64)⟩),(3,⟨3,true,x_124.2.2.2.2.flatMap (encI .i64)⟩)]⟩) (VC.sub (.c rfl<| .c rfl<| .c rfl<| .c rfl<| .c rfl<| .c rfl<| .c rfl<| .c rfl<| .n _) (.c rfl<| .c rfl<| .c rfl<| .c rfl<| .c rfl<| .c rfl<| .n _)) ?_
      refine AWP.cond (.tmp rfl) (fun hc => ?_) (fun hc => ?_)
      · have h := iteT hc h
        refine AWP.skip ?_
        refine AWP.block ?_
        refine AWP.seq ?_
        refine AWP.seq ?_
        refine AWP.region (.cons (.move (lt1 rfl) (.tmp rfl))<| .cons (.lenOwn (lt1 rfl) (.tmp rfl) Try.underlying26)<| .cons (.eql (lt1 rfl) (.tmp rfl) (.const _ _ _))<| ARun.nil _ _ _) ?_
        refine AWP.vc (s' := ⟨[(1,.ptr 1 0),(3,.own 2 1 0 y_17.length),(5,.ptr 4 0),(6,.own 5 1 0 x_124.2.2.1.length),(7,.own 6 1 0 x_124.2.2.2.1.length),(8,.sc (.int .i64 x_124.1)),(9,.sc (.int .i64 x_124.2.1)),(39,.sc (.bool (decide ((x_124.2.2.1.length : Int) = (0 : Int)))))],[(1,⟨30,false,[.rd β1 a0.length (a0.flatMap encR38)]⟩),(2,⟨3,true,y_17.flatMap (encI .i64)⟩),(4,⟨26,false,[.own 3 1 0 x_124.2.2.2.2.length]⟩),(5,⟨3,true,x_124.2.2.1.flatMap (encI .i64)⟩),(6,⟨3,true,x_124.2.2.2.1.flatMap (encI .i64)⟩),(3,⟨3,true,x_124.2.2.2.2.flatMap (encI .i64)⟩)]⟩) (VC.sub (.c rfl<| .c rfl<| .c rfl<| .c rfl<| .c rfl<| .c rfl<| .c rfl<| .c rfl<| .n _) (.c rfl<| .c rfl<| .c rfl<| .c rfl<| .c rfl<| .c rfl<| .n _)) ?_
        refine AWP.join' (S := fun p_129 : Int => ⟨[(1,.ptr 1 0),(3,.own 2 1 0 y_17.length),(5,.ptr 4 0),(6,.own 5 1 0 x_124.2.2.1.length),(7,.own 6 1 0 x_124.2.2.2.1.length),(8,.sc (.int .i64 p_129)),(9,.sc (.int .i64 x_124.2.1))],[(1,⟨30,false,[.rd β1 a0.length (a0.flatMap encR38)]⟩),(2,⟨3,true,y_17.flatMap (encI .i64)⟩),(4,⟨26,false,[.own 3 1 0 x_124.2.2.2.2.length]⟩),(5,⟨3,true,x_124.2.2.1.flatMap (encI .i64)⟩),(6,⟨3,true,x_124.2.2.2.1.flatMap (encI .i64)⟩),(3,⟨3,true,x_124.2.2.2.2.flatMap (encI .i64)⟩)]⟩) h (fun p_129 h => ?_) (fun k_130 h => ?_)
        · refine AWP.seq ?_
          refine AWP.joinB' (S := fun p_159 : Int × (List Int) × (List Int) => ⟨[(1,.ptr 1 0),(3,.own 2 1 0 y_17.length),(5,.ptr 4 0),(6,.own 5 1 0 p_159.2.1.length),(7,.own 6 1 0 x_124.2.2.2.1.length),(8,.sc (.int .i64 p_129)),(9,.sc (.int .i64 p_159.1))],[(1,⟨30,false,[.rd β1 a0.length (a0.flatMap encR38)]⟩),(2,⟨3,true,y_17.flatMap (encI .i64)⟩),(4,⟨26,false,[.own 3 1 0 p_159.2.2.length]⟩),(5,⟨3,true,p_159.2.1.flatMap (encI .i64)⟩),(6,⟨3,true,x_124.2.2.2.1.flatMap (encI .i64)⟩),(3,⟨3,true,p_159.2.2.flatMap (encI .i64)⟩)]⟩) h (fun p_159 h => ?_) (fun k_160 h => ?_)
          · refine AWP.seq ?_
            obtain ⟨y_161,hy_161,h⟩ := bindS h
            refine AWP.region (.cons (.move (lt1 rfl) (.tmp rfl))<| .cons (.makeFunc (lt1 rfl) (.nil) (.cons (.tmp rfl) (.nil)))<| .cons (.keep (bw := true) (AStep.call (σ := sgT [(1,4),(2,3)]) (bw := true) (lt1 rfl) (c65 (β1 := true) n p_159.2.1 p_159.2.2 hy_161) (.cons (.tmp rfl) (.lendRow rfl rfl (encI_len .i64) rfl) (.cons (.tmp rfl) (.ren rfl) (.nil))) (CallOk.mk' (.c rfl (.c rfl (.n))) rfl)) (CallOk.mk' (.c rfl (.c rfl (.n))) rfl) rfl rfl)<| .cons (.alloc (t := 8) (k := ⟨3,false,[.sc (.int .i64 (0 : Int))]⟩) (lt1 rfl) (nm rfl) zero3 rfl rfl)<| .cons (.storeP (.tmp rfl) (.tmp rfl) sz3 rfl (lt1 rfl) rfl (by intro h; cases h) rfl)<| ARun.nil _ _ _) ?_
            refine AWP.vc (s' := ⟨[(1,.ptr 1 0),(3,.own 2 1 0 y_17.length),(5,.ptr 4 0),(6,.own 5 1 0 p_159.2.1.length),(7,.own 6 1 0 x_124.2.2.2.1.length),(8,.sc (.int .i64 p_129)),(9,.sc (.int .i64 p_159.1)),(11,.ptr 8 0)],[(8,⟨3,false,[.sc (.int .i64 y_161)]⟩),(1,⟨30,false,[.rd β1 a0.length (a0.flatMap encR38)]⟩),(2,⟨3,true,y_17.flatMap (encI .i64)⟩),(4,⟨26,false,[.own 3 1 0 p_159.2.2.length]⟩),(5,⟨3,true,p_159.2.1.flatMap (encI .i64)⟩),(6,⟨3,true,x_124.2.2.2.1.flatMap (encI .i64)⟩),(3,⟨3,true,p_159.2.2.flatMap (encI .i64)⟩)]⟩) (VC.sub (.c rfl<| .c rfl<| .c rfl<| .c rfl<| .c rfl<| .c rfl<| .c rfl<| .c rfl<| .n _) (.c rfl<| .c rfl<| .c rfl<| .c rfl<| .c rfl<| .c rfl<| .c rfl<| .n _)) ?_
            refine AWP.seq ?_
            obtain ⟨y_162,hy_162,h⟩ := bindS h
            refine AWP.region (.cons (.loadP (lt1 rfl) (.tmp rfl) one26 rfl rfl rfl)<| .cons (.loadP (lt1 rfl) (.tmp rfl) one3 rfl rfl rfl)<| .cons (.idxOwn (lt1 rfl) (.tmp rfl) (.tmp rfl) Try.underlying26 sz3 rfl hy_162)<| .cons (.loadP (lt1 rfl) (.tmp rfl) one3 rfl (cell_at1 (encI_len .i64) hy_162) rfl)<| .cons (.assign (lt1 rfl) (.tmp rfl))<| ARun.nil _ _ _) ?_
            refine AWP.vc (s' := ⟨[(1,.ptr 1 0),(3,.own 2 1 0 y_17.length),(5,.ptr 4 0),(6,.own 5 1 0 p_159.2.1.length),(7,.own 6 1 0 x_124.2.2.2.1.length),(8,.sc (.int .i64 p_129)),(9,.sc (.int .i64 p_159.1)),(11,.ptr 8 0),(12,.sc (.int .i64 y_162))],[(8,⟨3,false,[.sc (.int .i64 y_161)]⟩),(1,⟨30,false,[.rd β1 a0.length (a0.flatMap encR38)]⟩),(2,⟨3,true,y_17.flatMap (encI .i64)⟩),(4,⟨26,false,[.own 3 1 0 p_159.2.2.length]⟩),(5,⟨3,true,p_159.2.1.flatMap (encI .i64)⟩),(6,⟨3,true,x_124.2.2.2.1.flatMap (encI .i64)⟩),(3,⟨3,true,p_159.2.2.flatMap (encI .i64)⟩)]⟩) (VC.sub (.c rfl<| .c rfl<| .c rfl<| .c rfl<| .c rfl<| .c rfl<| .c rfl<| .c rfl<| .c rfl<| .n _) (.c rfl<| .c rfl<| .c rfl<| .c rfl<| .c rfl<| .c rfl<| .c rfl<| .n _)) ?_
            refine AWP.seq ?_
            refine AWP.seq ?_
            refine AWP.region (.cons (.move (lt1 rfl) (.tmp rfl))<| .cons (.move (lt1 rfl) (.tmp rfl))<| .cons (.lenOwn (lt1 rfl) (.tmp rfl) Try.underlying26)<| .cons (.lss (lt1 rfl) (.tmp rfl) (.tmp rfl))<| ARun.nil _ _ _) ?_
            refine AWP.vc (s' := ⟨[(1,.ptr 1 0),(3,.own 2 1 0 y_17.length),(5,.ptr 4 0),(6,.own 5 1 0 p_159.2.1.length),(7,.own 6 1 0 x_124.2.2.2.1.length),(8,.sc (.int .i64 p_129)),(9,.sc (.int .i64 p_159.1)),(11,.ptr 8 0),(12,.sc (.int .i64 y_162)),(94,.sc (.bool (decide (p_159.1 < (y_17.length : Int)))))],[(8,⟨3,false,[.sc (.int .i64 y_161)]⟩),(1,⟨30,false,[.rd β1 a0.length (a0.flatMap encR38)]⟩),(2,⟨3,true,y_17.flatMap (encI .i64)⟩),(4,⟨26,false,[.own 3 1 0 p_159.2.2.length]⟩),(5,⟨3,true,p_159.2.1.flatMap (encI .i64)⟩),(6,⟨3,true,x_124.2.2.2.1.flatMap (encI .i64)⟩),(3,⟨3,true,p_159.2.2.flatMap (encI .i64)⟩)]⟩) (VC.sub (.c rfl<| .c rfl<| .c rfl<| .c rfl<| .c rfl<| .c rfl<| .c rfl<| .c rfl<| .c rfl<| .c rfl<| .n _) (.c rfl<| .c rfl<| .c rfl<| .c rfl<| .c rfl<| .c rfl<| .c rfl<| .n _)) ?_
            refine AWP.join' (S := fun p_166 : Int => ⟨[(1,.ptr 1 0),(3,.own 2 1 0 y_17.length),(5,.ptr 4 0),(6,.own 5 1 0 p_159.2.1.length),(7,.own 6 1 0 x_124.2.2.2.1.length),(8,.sc (.int .i64 p_129)),(9,.sc (.int .i64 p_159.1)),(11,.ptr 8 0),(12,.sc (.int .i64 p_166))],[(1,⟨30,false,[.rd β1 a0.length (a0.flatMap encR38)]⟩),(2,⟨3,true,y_17.flatMap (encI .i64)⟩),(4,⟨26,false,[.own 3 1 0 p_159.2.2.length]⟩),(5,⟨3,true,p_159.2.1.flatMap (encI .i64)⟩),(6,⟨3,true,x_124.2.2.2.1.flatMap (encI .i64)⟩),(8,⟨3,false,[.sc (.int .i64 y_161)]⟩),(3,⟨3,true,p_159.2.2.flatMap (encI .i64)⟩)]⟩) h (fun p_166 h => ?_) (fun k_167 h => ?_)
            · refine AWP.seq ?_
              obtain ⟨t8_168,ht8_168,h⟩ := letS h
              refine AWP.region (.cons (.move (lt1 rfl) (.tmp rfl))<| .cons (.move (lt1 rfl) (.tmp rfl))<| .cons (.add (lt1 rfl) (.tmp rfl) (.tmp rfl))<| .cons (.assign (lt1 rfl) (.tmp rfl))<| ARun.nil _ _ _) ?_
              refine AWP.vc (s' := ⟨[(1,.ptr 1 0),(3,.own 2 1 0 y_17.length),(5,.ptr 4 0),(6,.own 5 1 0 p_159.2.1.length),(7,.own 6 1 0 x_124.2.2.2.1.length),(8,.sc (.int .i64 t8_168)),(9,.sc (.int .i64 p_159.1)),(11,.ptr 8 0),(12,.sc (.int .i64 p_166))],[(1,⟨30,false,[.rd β1 a0.length (a0.flatMap encR38)]⟩),(2,⟨3,true,y_17.flatMap (encI .i64)⟩),(4,⟨26,false,[.own 3 1 0 p_159.2.2.length]⟩),(5,⟨3,true,p_159.2.1.flatMap (encI .i64)⟩),(6,⟨3,true,x_124.2.2.2.1.flatMap (encI .i64)⟩),(8,⟨3,false,[.sc (.int .i64 y_161)]⟩),(3,⟨3,true,p_159.2.2.flatMap (encI .i64)⟩)]⟩) (by subst ht8_168; exact VC.sub (.c rfl<| .c rfl<| .c rfl<| .c rfl<| .c rfl<| .c rfl<| .c rfl<| .c rfl<| .c rfl<| .n _) (.c rfl<| .c rfl<| .c rfl<| .c rfl<| .c rfl<| .c rfl<| .c rfl<| .n _)) ?_
              refine AWP.seq ?_
              obtain ⟨y_169,hy_169,h⟩ := bindS h
              obtain ⟨y_170,hy_170,h⟩ := bindS h
              obtain ⟨l3_171,hl3_171,h⟩ := bindS h
              refine AWP.region (.cons (.loadP (lt1 rfl) (.tmp rfl) one26 rfl rfl rfl)<| .cons (.loadP (lt1 rfl) (.tmp rfl) one3 rfl rfl rfl)<| .cons (.idxOwn (lt1 rfl) (.tmp rfl) (.tmp rfl) Try.underlying26 sz3 rfl hy_169)<| .cons (.loadP (lt1 rfl) (.tmp rfl) one3 rfl (cell_at1 (encI_len .i64) hy_169) rfl)<| .cons (.move (lt1 rfl) (.tmp rfl))<| .cons (.sub (lt1 rfl) (.tmp rfl) (.tmp rfl))<| .cons (.idxOwn (lt1 rfl) (.tmp rfl) (.tmp rfl) Try.underlying26 sz3 rfl hy_170)<| .cons (.storeP (.tmp rfl) (.tmp rfl) sz3 rfl (lt_at1 (encI_len .i64) hy_170) rfl (fun _ => rfl) (set_at1 (encI_len .i64) hl3_171 rfl))<| .vc (VC.cellEq (t := 4) (i := 0) (v' := .own 3 1 0 l3_171.length) rfl rfl rfl (congrArg (fun n_ => AV.own 3 1 0 n_) (Eq.symm (setLen hl3_171))))<| ARun.nil _ _ _) ?_
              refine AWP.vc (s' := ⟨[(1,.ptr 1 0),(3,.own 2 1 0 y_17.length),(5,.ptr 4 0),(6,.own 5 1 0 p_159.2.1.length),(7,.own 6 1 0 x_124.2.2.2.1.length),(8,.sc (.int .i64 t8_168)),(9,.sc (.int .i64 p_159.1)),(11,.ptr 8 0)],[(1,⟨30,false,[.rd β1 a0.length (a0.flatMap encR38)]⟩),(2,⟨3,true,y_17.flatMap (encI .i64)⟩),(4,⟨26,false,[.own 3 1 0 l3_171.length]⟩),(5,⟨3,true,p_159.2.1.flatMap (encI .i64)⟩),(6,⟨3,true,x_124.2.2.2.1.flatMap (encI .i64)⟩),(8,⟨3,false,[.sc (.int .i64 y_161)]⟩),(3,⟨3,true,l3_171.flatMap (encI .i64)⟩)]⟩) (VC.sub (.c rfl<| .c rfl<| .c rfl<| .c rfl<| .c rfl<| .c rfl<| .c rfl<| .c rfl<| .n _) (.c rfl<| .c rfl<| .c rfl<| .c rfl<| .c rfl<| .c rfl<| .c rfl<| .n _)) ?_
              refine AWP.seq ?_
              obtain ⟨y_172,hy_172,h⟩ := bindS h
              refine AWP.region (.cons (.loadP (lt1 rfl) (.tmp rfl) one26 rfl rfl rfl)<| .cons (.loadP (lt1 rfl) (.tmp rfl) one3 rfl rfl rfl)<| .cons (.idxOwn (lt1 rfl) (.tmp rfl) (.tmp rfl) Try.underlying26 sz3 rfl hy_172)<| .cons (.loadP (lt1 rfl) (.tmp rfl) one3 rfl (cell_at1 (encI_len .i64) hy_172) rfl)<| .cons (.eql (lt1 rfl) (.tmp rfl) (.const _ _ _))<| ARun.nil _ _ _) ?_
              refine AWP.vc (s' := ⟨[(1,.ptr 1 0),(3,.own 2 1 0 y_17.length),(5,.ptr 4 0),(6,.own 5 1 0 p_159.2.1.length),(7,.own 6 1 0 x_124.2.2.2.1.length),(8,.sc (.int .i64 t8_168)),(9,.sc (.int .i64 p_159.1)),(11,.ptr 8 0),(121,.sc (.bool (decide (y_172 = (0 : Int)))))],[(1,⟨30,false,[.rd β1 a0.length (a0.flatMap encR38)]⟩),(2,⟨3,true,y_17.flatMap (encI .i64)⟩),(4,⟨26,false,[.own 3 1 0 l3_171.length]⟩),(5,⟨3,true,p_159.2.1.flatMap (encI .i64)⟩),(6,⟨3,true,x_124.2.2.2.1.flatMap (encI .i64)⟩),(8,⟨3,false,[.sc (.int .i64 y_161)]⟩),(3,⟨3,true,l3_171.flatMap (encI .i64)⟩)]⟩) (VC.sub (.c rfl<| .c rfl<| .c rfl<| .c rfl<| .c rfl<| .c rfl<| .c rfl<| .c rfl<| .c rfl<| .n _) (.c rfl<| .c rfl<| .c rfl<| .c rfl<| .c rfl<| .c rfl<| .c rfl<| .n _)) ?_
              refine AWP.join' (S := fun p_175 : (List Int) × (List Int) => ⟨[(1,.ptr 1 0),(3,.own 2 1 0 y_17.length),(5,.ptr 4 0),(6,.own 5 1 0 p_175.1.length),(7,.own 6 1 0 p_175.2.length),(8,.sc (.int .i64 t8_168)),(9,.sc (.int .i64 p_159.1))],[(1,⟨30,false,[.rd β1 a0.length (a0.flatMap encR38)]⟩),(2,⟨3,true,y_17.flatMap (encI .i64)⟩),(4,⟨26,false,[.own 3 1 0 l3_171.length]⟩),(5,⟨3,true,p_175.1.flatMap (encI .i64)⟩),(6,⟨3,true,p_175.2.flatMap (encI .i64)⟩),(3,⟨3,true,l3_171.flatMap (encI .i64)⟩)]⟩) h (fun p_175 h => ?_) (fun k_176 h => ?_)
              · exact endJ (t8_168,p_159.1,p_175.1,p_175.2,l3_171) h (VC.sub (.c rfl<| .c rfl<| .c rfl<| .c rfl<| .c rfl<| .c rfl<| .c rfl<| .n _) (.c rfl<| .c rfl<| .c rfl<| .c rfl<| .c rfl<| .c rfl<| .n _))
              · refine AWP.cond (.tmp rfl) (fun hc => ?_) (fun hc => ?_)
                · have h := iteT hc h
                  refine AWP.seq ?_
                  obtain ⟨l6_173,hl6_173,h⟩ := bindS h
                  refine AWP.region (.cons (.move (lt1 rfl) (.tmp rfl))<| .cons (.move (lt1 rfl) (.tmp rfl))<| .cons (.buildSlice (t := 9) (out := ([t8_168] : List Int).flatMap (encI .i64)) (lt1 rfl) (nm rfl) (.cons (.tmp rfl) (by first | exact ⟨rfl,rfl⟩ | rfl) (.nil)) Try.underlying26 zero3 el3 (by decide) (by decide) rfl (still_all (encI_still .i64) _))<| .cons (.app (enc := (encI .i64)) (lt1 rfl) (nm rfl) (.tmp rfl) (Src.own (.tmp rfl) rfl (lendAll (encI_len .i64) _) (flatMap_length (encI_len .i64) _) (one_all (encI_one .i64) _) (.inl rfl)) Try.underlying26 ⟨_,Try.underlying26,by intro k hk; cases hk⟩ el3 rfl (encI_len .i64) rfl rfl (by decide) hl6_173)<| .cons (.assign (lt1 rfl) (.tmp rfl))<| ARun.nil _ _ _) ?_
                  refine AWP.vc (s' := ⟨[(1,.ptr 1 0),(3,.own 2 1 0 y_17.length),(5,.ptr 4 0),(6,.own 5 1 0 p_159.2.1.length),(7,.own 6 1 0 l6_173.length),(8,.sc (.int .i64 t8_168)),(9,.sc (.int .i64 p_159.1)),(11,.ptr 8 0)],[(6,⟨3,true,l6_173.flatMap (encI .i64)⟩),(1,⟨30,false,[.rd β1 a0.length (a0.flatMap encR38)]⟩),(2,⟨3,true,y_17.flatMap (encI .i64)⟩),(4,⟨26,false,[.own 3 1 0 l3_171.length]⟩),(5,⟨3,true,p_159.2.1.flatMap (encI .i64)⟩),(8,⟨3,false,[.sc (.int .i64 y_161)]⟩),(3,⟨3,true,l3_171.flatMap (encI .i64)⟩)]⟩) (VC.sub (.c rfl<| .c rfl<| .c rfl<| .c rfl<| .c rfl<| .c rfl<| .c rfl<| .c rfl<| .n _) (.c rfl<| .c rfl<| .c rfl<| .c rfl<| .c rfl<| .c rfl<| .c rfl<| .n _)) ?_
                  obtain ⟨y_174,hy_174,h⟩ := bindS h
                  refine AWP.region (.cons (.move (lt1 rfl) (.tmp rfl))<| .cons (.makeFunc (lt1 rfl) (.nil) (.cons (.tmp rfl) (.nil)))<| .cons (.call (σ := sgT [(1,5),(2,8)]) (bw := false) (lt1 rfl) (c68o n p_159.2.1 y_161 hy_174) (.cons (.tmp rfl) (.ren rfl) (.cons (.tmp rfl) (.ren rfl) (.nil))) (CallOk.mk' (.c rfl (.c rfl (.n))) rfl))<| .cons (.assign (lt1 rfl) (.tmp rfl))<| ARun.nil _ _ _) ?_
                  exact endJ (y_174,l6_173) h (VC.sub (.c rfl<| .c rfl<| .c rfl<| .c rfl<| .c rfl<| .c rfl<| .c rfl<| .n _) (.c rfl<| .c rfl<| .c rfl<| .c rfl<| .c rfl<| .c rfl<| .n _))
                · have h := iteF hc h
                  refine AWP.skip ?_
                  exact endJ (p_159.2.1,x_124.2.2.2.1) h (VC.sub (.c rfl<| .c rfl<| .c rfl<| .c rfl<| .c rfl<| .c rfl<| .c rfl<| .n _) (.c rfl<| .c rfl<| .c rfl<| .c rfl<| .c rfl<| .c rfl<| .n _))
            · refine AWP.cond (.tmp rfl) (fun hc => ?_) (fun hc => ?_)
              · have h := iteT hc h
                obtain ⟨y_163,hy_163,h⟩ := bindS h
                obtain ⟨y_164,hy_164,h⟩ := bindS h
                obtain ⟨t12_165,ht12_165,h⟩ := letS h
                refine AWP.draw (s' := ⟨[(1,.ptr 1 0),(3,.own 2 1 0 y_17.length),(5,.ptr 4 0),(6,.own 5 1 0 p_159.2.1.length),(7,.own 6 1 0 x_124.2.2.2.1.length),(8,.sc (.int .i64 p_129)),(9,.sc (.int .i64 p_159.1)),(11,.ptr 8 0),(12,.sc (.int .i64 (if (IntKind.wrap .i64 (y_164.Release - p_129)) < y_162 then (IntKind.wrap .i64 (y_164.Release - p_129)) else y_162)))],[(8,⟨3,false,[.sc (.int .i64 y_161)]⟩),(1,⟨30,false,[.rd β1 a0.length (a0.flatMap encR38)]⟩),(2,⟨3,true,y_17.flatMap (encI .i64)⟩),(4,⟨26,false,[.own 3 1 0 p_159.2.2.length]⟩),(5,⟨3,true,p_159.2.1.flatMap (encI .i64)⟩),(6,⟨3,true,x_124.2.2.2.1.flatMap (encI .i64)⟩),(3,⟨3,true,p_159.2.2.flatMap (encI .i64)⟩)]⟩) mixed [⟨1,.ptr 1 0,none,[]⟩,⟨3,.own 2 1 0 y_17.length,none,[]⟩,⟨5,.ptr 4 0,none,[]⟩,⟨6,.own 5 1 0 p_159.2.1.length,none,[]⟩,⟨7,.own 6 1 0 x_124.2.2.2.1.length,none,[]⟩,⟨8,.sc (.int .i64 p_129),none,[]⟩,⟨9,.sc (.int .i64 p_159.1),none,[]⟩,⟨11,.ptr 8 0,none,[]⟩,⟨12,.sc (.int .i64 y_162),none,[12]⟩,⟨94,.sc (.bool (decide (p_159.1 < (y_17.length : Int)))),none,[]⟩,⟨95,.sc (.int .i64 y_162),some 0,[]⟩,⟨96,.rd β1 a0.length (a0.flatMap encR38),some 1,[]⟩,⟨97,.own 2 1 0 y_17.length,some 2,[]⟩,⟨98,.sc (.int .i64 p_159.1),some 3,[]⟩,⟨99,.ptr 2 (0 + (p_159.1).toNat * 1),some 4,[]⟩,⟨100,.sc (.int .i64 y_163),some 5,[]⟩,⟨101,.rptr β1 [.sc (.int .i64 y_164.Release),.sc (.int .i64 y_164.Length),.sc (.int .i64 y_164.Due)],some 6,[]⟩,⟨102,.rptr β1 [.sc (.int .i64 y_164.Release),.sc (.int .i64 y_164.Length),.sc (.int .i64 y_164.Due)],some 7,[]⟩,⟨103,.sc (.int .i64 y_164.Release),some 8,[]⟩,⟨104,.sc (.int .i64 p_129),some 9,[]⟩,⟨105,.sc (.int .i64 (IntKind.wrap .i64 (y_164.Release - p_129))),some 10,[]⟩,⟨106,.sc (.int .i64 (if (IntKind.wrap .i64 (y_164.Release - p_129)) < y_162 then (IntKind.wrap .i64 (y_164.Release - p_129)) else y_162)),some 11,[]⟩,⟨12,.sc (.int .i64 (if (IntKind.wrap .i64 (y_164.Release - p_129)) < y_162 then (IntKind.wrap .i64 (y_164.Release - p_129)) else y_162)),some 12,[]⟩] [⟨[8],0,0,some (95,.sc (.int .i64 y_162)),[]⟩,⟨[0],0,0,some (96,.rd β1 a0.length (a0.flatMap encR38)),[]⟩,⟨[1],0,0,some (97,.own 2 1 0 y_17.length),[]⟩,⟨[6],0,0,some (98,.sc (.int .i64 p_159.1)),[]⟩,⟨[12,13],0,0,some (99,.ptr 2 (0 + (p_159.1).toNat * 1)),[]⟩,⟨[14],0,0,some (100,.sc (.int .i64 y_163)),[]⟩,⟨[11,15],0,0,some (101,.rptr β1 [.sc (.int .i64 y_164.Release),.sc (.int .i64 y_164.Length),.sc (.int .i64 y_164.Due)]),[]⟩,⟨[16],0,0,some (102,.rptr β1 [.sc (.int .i64 y_164.Release),.sc (.int .i64 y_164.Length),.sc (.int .i64 y_164.Due)]),[]⟩,⟨[17],0,0,some (103,.sc (.int .i64 y_164.Release)),[]⟩,⟨[5],0,0,some (104,.sc (.int .i64 p_129)),[]⟩,⟨[18,19],0,0,some (105,.sc (.int .i64 (IntKind.wrap .i64 (y_164.Release - p_129)))),[]⟩,⟨[10,20],0,0,some (106,.sc (.int .i64 (if (IntKind.wrap .i64 (y_164.Release - p_129)) < y_162 then (IntKind.wrap .i64 (y_164.Release - p_129)) else y_162))),[]⟩,⟨[21],0,0,some (12,.sc (.int .i64 (if (IntKind.wrap .i64 (y_164.Release - p_129)) < y_162 then (IntKind.wrap .i64 (y_164.Release - p_129)) else y_162))),[]⟩] [] [[(8,⟨3,false,[.sc (.int .i64 y_161)]⟩),(1,⟨30,false,[.rd β1 a0.length (a0.flatMap encR38)]⟩),(2,⟨3,true,y_17.flatMap (encI .i64)⟩),(4,⟨26,false,[.own 3 1 0 p_159.2.2.length]⟩),(5,⟨3,true,p_159.2.1.flatMap (encI .i64)⟩),(6,⟨3,true,x_124.2.2.2.1.flatMap (encI .i64)⟩),(3,⟨3,true,p_159.2.2.flatMap (encI .i64)⟩)]] [[],[],[],[],[2,3],[2,3,4],[1,2,3,4,5],[1,2,3,4,5,6],[1,2,3,4,5,6,7],[],[1,2,3,4,5,6,7,8,9],[0,1,2,3,4,5,6,7,8,9,10],[0,1,2,3,4,5,6,7,8,9,10,11]] (by kernel_rfl) (by kernel_rfl) (BornL.ok (.o<| .o<| .o<| .o<| .o<| .o<| .o<| .o<| .o<| .o<| .b rfl rfl<| .b rfl rfl<| .b rfl rfl<| .b rfl rfl<| .b rfl rfl<| .b rfl rfl<| .b rfl rfl<| .b rfl rfl<| .b rfl rfl<| .b rfl rfl<| .b rfl rfl<| .b rfl rfl<| .b rfl rfl<| .n)) (BaseL.ok (.o rfl<| .o rfl<| .o rfl<| .o rfl<| .o rfl<| .o rfl<| .o rfl<| .o rfl<| .o rfl<| .o rfl<| .b<| .b<| .b<| .b<| .b<| .b<| .b<| .b<| .b<| .b<| .b<| .b<| .b<| .n)) rfl (by decide) (allLt rfl) (.pure rfl (fun H => .put (fun E hE => .move (lt1 rfl) (.tmp (hE.at (k := 0) rfl))))<| .read rfl (.c (.put (fun E hE => .loadP (lt1 rfl) (.tmp (hE.at (k := 0) rfl)) one30 rfl rfl rfl)) .n)<| .read rfl (.c (.put (fun E hE => .move (lt1 rfl) (.tmp (hE.at (k := 0) rfl)))) .n)<| .pure rfl (fun H => .put (fun E hE => .move (lt1 rfl) (.tmp (hE.at (k := 0) rfl))))<| .read rfl (.c (.put (fun E hE => .idxOwn (lt1 rfl) (.tmp (hE.at (k := 0) rfl)) (.tmp (hE.at (k := 1) rfl)) Try.underlying26 sz3 rfl hy_163)) .n)<| .read rfl (.c (.put (fun E hE => .loadP (lt1 rfl) (.tmp (hE.at (k := 0) rfl)) one3 rfl (cell_at1 (encI_len .i64) hy_163) rfl)) .n)<| .pure rfl (fun H => .put (fun E hE => .indexRd (enc := encR38) (lt1 rfl) (.tmp (hE.at (k := 0) rfl)) (.tmp (hE.at (k := 1) rfl)) Try.underlying30 sz40 encR38_len rfl hy_164))<| .pure rfl (fun H => .put (fun E hE => .fieldR (lt1 rfl) (.tmp (hE.at (k := 0) rfl)) fld40_0 rfl))<| .pure rfl (fun H => .put (fun E hE => .loadR (v := .sc (.int .i64 y_164.Release)) (lt1 rfl) (.tmp (hE.at (k := 0) rfl)) one3 rfl))<| .pure rfl (fun H => .put (fun E hE => .move (lt1 rfl) (.tmp (hE.at (k := 0) rfl))))<| .pure rfl (fun H => .put (fun E hE => .sub (lt1 rfl) (.tmp (hE.at (k := 0) rfl)) (.tmp (hE.at (k := 1) rfl))))<| .pure rfl (fun H => .put (fun E hE => .min2 (lt1 rfl) (.tmp (hE.at (k := 0) rfl)) (.tmp (hE.at (k := 1) rfl))))<| .pure rfl (fun H => .put (fun E hE => .assign (lt1 rfl) (.tmp (hE.at (k := 0) rfl))))<| .nil _) (fun E hE => .c (DInv.at hE (k := 0) rfl rfl rfl)<| .c (DInv.at hE (k := 1) rfl rfl rfl)<| .c (DInv.at hE (k := 2) rfl rfl rfl)<| .c (DInv.at hE (k := 3) rfl rfl rfl)<| .c (DInv.at hE (k := 4) rfl rfl rfl)<| .c (DInv.at hE (k := 5) rfl rfl rfl)<| .c (DInv.at hE (k := 6) rfl rfl rfl)<| .c (DInv.at hE (k := 7) rfl rfl rfl)<| .c (DInv.at hE (k := 22) rfl rfl rfl)<| .n _) rfl ?_
                exact endJ t12_165 h (by subst ht12_165; exact VC.sub (.c rfl<| .c rfl<| .c rfl<| .c rfl<| .c rfl<| .c rfl<| .c rfl<| .c rfl<| .c rfl<| .n _) (.c rfl<| .c rfl<| .c rfl<| .c rfl<| .c rfl<| .c rfl<| .c rfl<| .n _))
              · have h := iteF hc h
                refine AWP.skip ?_
                exact endJ y_162 h (VC.sub (.c rfl<| .c rfl<| .c rfl<| .c rfl<| .c rfl<| .c rfl<| .c rfl<| .c rfl<| .c rfl<| .n _) (.c rfl<| .c rfl<| .c rfl<| .c rfl<| .c rfl<| .c rfl<| .c rfl<| .n _))
          · refine AWP.vc (s' := ⟨[(1,.ptr 1 0),(3,.own 2 1 0 y_17.length),(5,.ptr 4 0),(6,.own 5 1 0 x_124.2.2.1.length),(7,.own 6 1 0 x_124.2.2.2.1.length),(8,.sc (.int .i64 p_129)),(9,.sc (.int .i64 x_124.2.1))],[(1,⟨30,false,[.rd β1 a0.length (a0.flatMap encR38)]⟩),(2,⟨3,true,y_17.flatMap (encI .i64)⟩),(4,⟨26,false,[.own 3 1 0 x_124.2.2.2.2.length]⟩),(5,⟨3,true,x_124.2.2.1.flatMap (encI .i64)⟩),(6,⟨3,true,x_124.2.2.2.1.flatMap (encI .i64)⟩),(3,⟨3,true,x_124.2.2.2.2.flatMap (encI .i64)⟩)]⟩) (VC.sub (.c rfl<| .c rfl<| .c rfl<| .c rfl<| .c rfl<| .c rfl<| .c rfl<| .n _) (.c rfl<| .c rfl<| .c rfl<| .c rfl<| .c rfl<| .c rfl<| .n _)) ?_
            refine AWP.loopM (S := fun x_149 : Int × (List Int) × (List Int) => ⟨[(1,.ptr 1 0),(3,.own 2 1 0 y_17.length),(5,.ptr 4 0),(6,.own 5 1 0 x_149.2.1.length),(7,.own 6 1 0 x_124.2.2.2.1.length),(8,.sc (.int .i64 p_129)),(9,.sc (.int .i64 x_149.1))],[(1,⟨30,false,[.rd β1 a0.length (a0.flatMap encR38)]⟩),(2,⟨3,true,y_17.flatMap (encI .i64)⟩),(4,⟨26,false,[.own 3 1 0 x_149.2.2.length]⟩),(5,⟨3,true,x_149.2.1.flatMap (encI .i64)⟩),(6,⟨3,true,x_124.2.2.2.1.flatMap (encI .i64)⟩),(3,⟨3,true,x_149.2.2.flatMap (encI .i64)⟩)]⟩) (x := (x_124.2.1,x_124.2.2.1,x_124.2.2.2.2)) (fun nx_150 x_149 h => ?_) h
            unfold m50_L5 at h
            refine AWP.seq ?_
            refine AWP.seq ?_
            obtain ⟨y_151,hy_151,h⟩ := bindS h
            obtain ⟨y_152,hy_152,h⟩ := bindS h
            refine AWP.draw (s' := ⟨[(1,.ptr 1 0),(3,.own 2 1 0 y_17.length),(5,.ptr 4 0),(6,.own 5 1 0 x_149.2.1.length),(7,.own 6 1 0 x_124.2.2.2.1.length),(8,.sc (.int .i64 p_129)),(9,.sc (.int .i64 x_149.1)),(65,.sc (.bool ((decide (x_149.1 < (y_17.length : Int))) && (decide (y_152.Release ≤ p_129)))))],[(1,⟨30,false,[.rd β1 a0.length (a0.flatMap encR38)]⟩),(2,⟨3,true,y_17.flatMap (encI .i64)⟩),(4,⟨26,false,[.own 3 1 0 x_149.2.2.length]⟩),(5,⟨3,true,x_149.2.1.flatMap (encI .i64)⟩),(6,⟨3,true,x_124.2.2.2.1.flatMap (encI .i64)⟩),(3,⟨3,true,x_149.2.2.flatMap (encI .i64)⟩)]⟩) mixed [⟨1,.ptr 1 0,none,[]⟩,⟨3,.own 2 1 0 y_17.length,none,[]⟩,⟨5,.ptr 4 0,none,[]⟩,⟨6,.own 5 1 0 x_149.2.1.length,none,[]⟩,⟨7,.own 6 1 0 x_124.2.2.2.1.length,none,[]⟩,⟨8,.sc (.int .i64 p_129),none,[]⟩,⟨9,.sc (.int .i64 x_149.1),none,[]⟩,⟨50,.sc (.int .i64 x_149.1),some 0,[]⟩,⟨51,.own 2 1 0 y_17.length,some 1,[]⟩,⟨52,.sc (.int .i64 (y_17.length : Int)),some 2,[]⟩,⟨53,.sc (.bool (decide (x_149.1 < (y_17.length : Int)))),some 3,[]⟩,⟨54,.sc (.bool (decide (x_149.1 < (y_17.length : Int)))),some 4,[]⟩,⟨55,.gd (decide (x_149.1 < (y_17.length : Int))) (.rd β1 a0.length (a0.flatMap encR38)),some 5,[]⟩,⟨56,.gd (decide (x_149.1 < (y_17.length : Int))) (.own 2 1 0 y_17.length),some 6,[]⟩,⟨57,.gd (decide (x_149.1 < (y_17.length : Int))) (.sc (.int .i64 x_149.1)),some 7,[]⟩,⟨58,.gd (decide (x_149.1 < (y_17.length : Int))) (.ptr 2 (0 + (x_149.1).toNat * 1)),some 8,[]⟩,⟨59,.gd (decide (x_149.1 < (y_17.length : Int))) (.sc (.int .i64 y_151)),some 9,[]⟩,⟨60,.gd (decide (x_149.1 < (y_17.length : Int))) (.rptr β1 [.sc (.int .i64 y_152.Release),.sc (.int .i64 y_152.Length),.sc (.int .i64 y_152.Due)]),some 10,[]⟩,⟨61,.gd (decide (x_149.1 < (y_17.length : Int))) (.rptr β1 [.sc (.int .i64 y_152.Release),.sc (.int .i64 y_152.Length),.sc (.int .i64 y_152.Due)]),some 11,[]⟩,⟨62,.gd (decide (x_149.1 < (y_17.length : Int))) (.sc (.int .i64 y_152.Release)),some 12,[]⟩,⟨63,.gd (decide (x_149.1 < (y_17.length : Int))) (.sc (.int .i64 p_129)),some 13,[]⟩,⟨64,.gd (decide (x_149.1 < (y_17.length : Int))) (.sc (.bool (decide (y_152.Release ≤ p_129)))),some 14,[]⟩,⟨65,.sc (.bool ((decide (x_149.1 < (y_17.length : Int))) && (decide (y_152.Release ≤ p_129)))),some 15,[]⟩] [⟨[6],0,0,some (50,.sc (.int .i64 x_149.1)),[]⟩,⟨[1],0,0,some (51,.own 2 1 0 y_17.length),[]⟩,⟨[8],0,0,some (52,.sc (.int .i64 (y_17.length : Int))),[]⟩,⟨[7,9],0,0,some (53,.sc (.bool (decide (x_149.1 < (y_17.length : Int))))),[]⟩,⟨[10],0,0,some (54,.sc (.bool (decide (x_149.1 < (y_17.length : Int))))),[]⟩,⟨[11,0],0,0,some (55,.gd (decide (x_149.1 < (y_17.length : Int))) (.rd β1 a0.length (a0.flatMap encR38))),[]⟩,⟨[11,1],0,0,some (56,.gd (decide (x_149.1 < (y_17.length : Int))) (.own 2 1 0 y_17.length)),[]⟩,⟨[11,6],0,0,some (57,.gd (decide (x_149.1 < (y_17.length : Int))) (.sc (.int .i64 x_149.1))),[]⟩,⟨[11,13,14],0,0,some (58,.gd (decide (x_149.1 < (y_17.length : Int))) (.ptr 2 (0 + (x_149.1).toNat * 1))),[]⟩,⟨[11,15],0,0,some (59,.gd (decide (x_149.1 < (y_17.length : Int))) (.sc (.int .i64 y_151))),[]⟩,⟨[11,12,16],0,0,some (60,.gd (decide (x_149.1 < (y_17.length : Int))) (.rptr β1 [.sc (.int .i64 y_152.Release),.sc (.int .i64 y_152.Length),.sc (.int .i64 y_152.Due)])),[]⟩,⟨[11,17],0,0,some (61,.gd (decide (x_149.1 < (y_17.length : Int))) (.rptr β1 [.sc (.int .i64 y_152.Release),.sc (.int .i64 y_152.Length),.sc (.int .i64 y_152.Due)])),[]⟩,⟨[11,18],0,0,some (62,.gd (decide (x_149.1 < (y_17.length : Int))) (.sc (.int .i64 y_152.Release))),[]⟩,⟨[11,5],0,0,some (63,.gd (decide (x_149.1 < (y_17.length : Int))) (.sc (.int .i64 p_129))),[]⟩,⟨[11,19,20],0,0,some (64,.gd (decide (x_149.1 < (y_17.length : Int))) (.sc (.bool (decide (y_152.Release ≤ p_129))))),[]⟩,⟨[11,21],0,0,some (65,.sc (.bool ((decide (x_149.1 < (y_17.length : Int))) && (decide (y_152.Release ≤ p_129))))),[]⟩] [] [[(1,⟨30,false,[.rd β1 a0.length (a0.flatMap encR38)]⟩),(2,⟨3,true,y_17.flatMap (encI .i64)⟩),(4,⟨26,false,[.own 3 1 0 x_149.2.2.length]⟩),(5,⟨3,true,x_149.2.1.flatMap (encI .i64)⟩),(6,⟨3,true,x_124.2.2.2.1.flatMap (encI .i64)⟩),(3,⟨3,true,x_149.2.2.flatMap (encI .i64)⟩)]] [[],[],[1],[0,1,2],[0,1,2,3],[0,1,2,3,4],[0,1,2,3,4],[0,1,2,3,4],[0,1,2,3,4,6,7],[0,1,2,3,4,6,7,8],[0,1,2,3,4,5,6,7,8,9],[0,1,2,3,4,5,6,7,8,9,10],[0,1,2,3,4,5,6,7,8,9,10,11],[0,1,2,3,4],[0,1,2,3,4,5,6,7,8,9,10,11,12,13],[0,1,2,3,4,5,6,7,8,9,10,11,12,13,14]] (by kernel_rfl) (by kernel_rfl) (BornL.ok (.o<| .o<| .o<| .o<| .o<| .o<| .o<| .b rfl rfl<| .b rfl rfl<| .b rfl rfl<| .b rfl rfl<| .b rfl rfl<| .b rfl rfl<| .b rfl rfl<| .b rfl rfl<| .b rfl rfl<| .b rfl rfl<| .b rfl rfl<| .b rfl rfl<| .b rfl rfl<| .b rfl rfl<| .b rfl rfl<| .b rfl rfl<| .n)) (BaseL.ok (.o rfl<| .o rfl<| .o rfl<| .o rfl<| .o rfl<| .o rfl<| .o rfl<| .b<| .b<| .b<| .b<| .b<| .b<| .b<| .b<| .b<| .b<| .b<| .b<| .b<| .b<| .b<| .b<| .n)) rfl (by decide) (allLt rfl) (.pure rfl (fun H => .put (fun E hE => .move (lt1 rfl) (.tmp (hE.at (k := 0) rfl))))<| .read rfl (.c (.put (fun E hE => .move (lt1 rfl) (.tmp (hE.at (k := 0) rfl)))) .n)<| .read rfl (.c (.put (fun E hE => .lenOwn (lt1 rfl) (.tmp (hE.at (k := 0) rfl)) Try.underlying26)) .n)<| .pure rfl (fun H => .put (fun E hE => .lss (lt1 rfl) (.tmp (hE.at (k := 0) rfl)) (.tmp (hE.at (k := 1) rfl))))<| .pure rfl (fun H => .put (fun E hE => .move (lt1 rfl) (.tmp (hE.at (k := 0) rfl))))<| .read rfl (.c (.gput (b := (decide (x_149.1 < (y_17.length : Int)))) (want := true) (j := 4) (dj := 54) rfl (lt1 rfl) (lt1 rfl) (fun E hE => hE.at (k := 0) rfl) (fun hg E hE => .loadP (lt1 rfl) (.tmp (hE.at (k := 1) rfl)) one30 rfl rfl rfl)) .n)<| .read rfl (.c (.gput (b := (decide (x_149.1 < (y_17.length : Int)))) (want := true) (j := 4) (dj := 54) rfl (lt1 rfl) (lt1 rfl) (fun E hE => hE.at (k := 0) rfl) (fun hg E hE => .move (lt1 rfl) (.tmp (hE.at (k := 1) rfl)))) .n)<| .pure rfl (fun H => .gput (b := (decide (x_149.1 < (y_17.length : Int)))) (want := true) (j := 4) (dj := 54) rfl (lt1 rfl) (lt1 rfl) (fun E hE => hE.at (k := 0) rfl) (fun hg E hE => .move (lt1 rfl) (.tmp (hE.at (k := 1) rfl))))<| .read rfl (.c (.gput (b := (decide (x_149.1 < (y_17.length : Int)))) (want := true) (j := 4) (dj := 54) rfl (lt1 rfl) (lt1 rfl) (fun E hE => hE.at (k := 0) rfl) (fun hg E hE => .idxOwn (lt1 rfl) (.gd hg (.tmp (hE.at (k := 1) rfl))) (.gd hg (.tmp (hE.at (k := 2) rfl))) Try.underlying26 sz3 rfl (gdB hy_151 hg))) .n)<| .read rfl (.c (.gput (b := (decide (x_149.1 < (y_17.length : Int)))) (want := true) (j := 4) (dj := 54) rfl (lt1 rfl) (lt1 rfl) (fun E hE => hE.at (k := 0) rfl) (fun hg E hE => .loadP (lt1 rfl) (.gd hg (.tmp (hE.at (k := 1) rfl))) one3 rfl (cell_at1 (encI_len .i64) (gdB hy_151 hg)) rfl)) .n)<| .pure rfl (fun H => .gput (b := (decide (x_149.1 < (y_17.length : Int)))) (want := true) (j := 4) (dj := 54) rfl (lt1 rfl) (lt1 rfl) (fun E hE => hE.at (k := 0) rfl) (fun hg E hE => .indexRd (enc := encR38) (lt1 rfl) (.gd hg (.tmp (hE.at (k := 1) rfl))) (.gd hg (.tmp (hE.at (k := 2) rfl))) Try.underlying30 sz40 encR38_len rfl (gdB hy_152 hg)))<| .pure rfl (fun H => .gput (b := (decide (x_149.1 < (y_17.length : Int)))) (want := true) (j := 4) (dj := 54) rfl (lt1 rfl) (lt1 rfl) (fun E hE => hE.at (k := 0) rfl) (fun hg E hE => .fieldR (sub := [.sc (.int .i64 y_152.Release),.sc (.int .i64 y_152.Length),.sc (.int .i64 y_152.Due)]) (lt1 rfl) (.gd hg (.tmp (hE.at (k := 1) rfl))) fld40_0 rfl))<| .pure rfl (fun H => .gput (b := (decide (x_149.1 < (y_17.length : Int)))) (want := true) (j := 4) (dj := 54) rfl (lt1 rfl) (lt1 rfl) (fun E hE => hE.at (k := 0) rfl) (fun hg E hE => .loadR (v := .sc (.int .i64 y_152.Release)) (lt1 rfl) (.gd hg (.tmp (hE.at (k := 1) rfl))) one3 rfl))<| .pure rfl (fun H => .gput (b := (decide (x_149.1 < (y_17.length : Int)))) (want := true) (j := 4) (dj := 54) rfl (lt1 rfl) (lt1 rfl) (fun E hE => hE.at (k := 0) rfl) (fun hg E hE => .move (lt1 rfl) (.tmp (hE.at (k := 1) rfl))))<| .pure rfl (fun H => .gput (b := (decide (x_149.1 < (y_17.length : Int)))) (want := true) (j := 4) (dj := 54) rfl (lt1 rfl) (lt1 rfl) (fun E hE => hE.at (k := 0) rfl) (fun hg E hE => .leq (lt1 rfl) (.gd hg (.tmp (hE.at (k := 1) rfl))) (.gd hg (.tmp (hE.at (k := 2) rfl)))))<| .pure rfl (fun H => .put (fun E hE => .pickAnd (lt1 rfl) (.tmp (hE.at (k := 0) rfl)) (.tmp (hE.at (k := 1) rfl)) (.const _ _ _)))<| .nil _) (fun E hE => .c (DInv.at hE (k := 0) rfl rfl rfl)<| .c (DInv.at hE (k := 1) rfl rfl rfl)<| .c (DInv.at hE (k := 2) rfl rfl rfl)<| .c (DInv.at hE (k := 3) rfl rfl rfl)<| .c (DInv.at hE (k := 4) rfl rfl rfl)<| .c (DInv.at hE (k := 5) rfl rfl rfl)<| .c (DInv.at hE (k := 6) rfl rfl rfl)<| .c (DInv.at hE (k := 22) rfl rfl rfl)<| .n _) rfl ?_
            refine AWP.vc (s' := ⟨[(1,.ptr 1 0),(3,.own 2 1 0 y_17.length),(5,.ptr 4 0),(6,.own 5 1 0 x_149.2.1.length),(7,.own 6 1 0 x_124.2.2.2.1.length),(8,.sc (.int .i64 p_129)),(9,.sc (.int .i64 x_149.1)),(65,.sc (.bool ((decide (x_149.1 < (y_17.length : Int))) && (decide (y_152.Release ≤ p_129)))))],[(1,⟨30,false,[.rd β1 a0.length (a0.flatMap encR38)]⟩),(2,⟨3,true,y_17.flatMap (encI .i64)⟩),(4,⟨26,false,[.own 3 1 0 x_149.2.2.length]⟩),(5,⟨3,true,x_149.2.1.flatMap (encI .i64)⟩),(6,⟨3,true,x_124.2.2.2.1.flatMap (encI .i64)⟩),(3,⟨3,true,x_149.2.2.flatMap (encI .i64)⟩)]⟩) (VC.sub (.c rfl<| .c rfl<| .c rfl<| .c rfl<| .c rfl<| .c rfl<| .c rfl<| .c rfl<| .n _) (.c rfl<| .c rfl<| .c rfl<| .c rfl<| .c rfl<| .c rfl<| .n _)) ?_
            refine AWP.cond (.tmp rfl) (fun hc => ?_) (fun hc => ?_)
            · have h := iteT hc h
              refine AWP.skip ?_
              refine AWP.seq ?_
              refine AWP.block ?_
              refine AWP.seq ?_
              obtain ⟨y_153,hy_153,h⟩ := bindS h
              refine AWP.region (.cons (.move (lt1 rfl) (.tmp rfl))<| .cons (.move (lt1 rfl) (.tmp rfl))<| .cons (.idxOwn (lt1 rfl) (.tmp rfl) (.tmp rfl) Try.underlying26 sz3 rfl hy_153)<| .cons (.loadP (lt1 rfl) (.tmp rfl) one3 rfl (cell_at1 (encI_len .i64) hy_153) rfl)<| .cons (.assign (lt1 rfl) (.tmp rfl))<| ARun.nil _ _ _) ?_
              refine AWP.vc (s' := ⟨[(1,.ptr 1 0),(3,.own 2 1 0 y_17.length),(5,.ptr 4 0),(6,.own 5 1 0 x_149.2.1.length),(7,.own 6 1 0 x_124.2.2.2.1.length),(8,.sc (.int .i64 p_129)),(9,.sc (.int .i64 x_149.1)),(10,.sc (.int .i64 y_153))],[(1,⟨30,false,[.rd β1 a0.length (a0.flatMap encR38)]⟩),(2,⟨3,true,y_17.flatMap (encI .i64)⟩),(4,⟨26,false,[.own 3 1 0 x_149.2.2.length]⟩),(5,⟨3,true,x_149.2.1.flatMap (encI .i64)⟩),(6,⟨3,true,x_124.2.2.2.1.flatMap (encI .i64)⟩),(3,⟨3,true,x_149.2.2.flatMap (encI .i64)⟩)]⟩) (VC.sub (.c rfl<| .c rfl<| .c rfl<| .c rfl<| .c rfl<| .c rfl<| .c rfl<| .c rfl<| .n _) (.c rfl<| .c rfl<| .c rfl<| .c rfl<| .c rfl<| .c rfl<| .n _)) ?_
              refine AWP.seq ?_
              obtain ⟨y_154,hy_154,h⟩ := bindS h
              obtain ⟨y_155,hy_155,h⟩ := bindS h
              obtain ⟨l3_156,hl3_156,h⟩ := bindS h
              refine AWP.draw (s' := ⟨[(1,.ptr 1 0),(3,.own 2 1 0 y_17.length),(5,.ptr 4 0),(6,.own 5 1 0 x_149.2.1.length),(7,.own 6 1 0 x_124.2.2.2.1.length),(8,.sc (.int .i64 p_129)),(9,.sc (.int .i64 x_149.1)),(10,.sc (.int .i64 y_153))],[(1,⟨30,false,[.rd β1 a0.length (a0.flatMap encR38)]⟩),(2,⟨3,true,y_17.flatMap (encI .i64)⟩),(4,⟨26,false,[.own 3 1 0 l3_156.length]⟩),(5,⟨3,true,x_149.2.1.flatMap (encI .i64)⟩),(6,⟨3,true,x_124.2.2.2.1.flatMap (encI .i64)⟩),(3,⟨3,true,l3_156.flatMap (encI .i64)⟩)]⟩) mixed [⟨1,.ptr 1 0,none,[]⟩,⟨3,.own 2 1 0 y_17.length,none,[]⟩,⟨5,.ptr 4 0,none,[]⟩,⟨6,.own 5 1 0 x_149.2.1.length,none,[]⟩,⟨7,.own 6 1 0 x_124.2.2.2.1.length,none,[]⟩,⟨8,.sc (.int .i64 p_129),none,[]⟩,⟨9,.sc (.int .i64 x_149.1),none,[]⟩,⟨10,.sc (.int .i64 y_153),none,[]⟩,⟨72,.own 3 1 0 x_149.2.2.length,some 0,[]⟩,⟨73,.sc (.int .i64 y_153),some 1,[]⟩,⟨74,.rd β1 a0.length (a0.flatMap encR38),some 2,[]⟩,⟨75,.sc (.int .i64 y_153),some 3,[]⟩,⟨76,.rptr β1 [.sc (.int .i64 y_154.Release),.sc (.int .i64 y_154.Length),.sc (.int .i64 y_154.Due)],some 4,[]⟩,⟨77,.rptr β1 [.sc (.int .i64 y_154.Length),.sc (.int .i64 y_154.Due)],some 5,[]⟩,⟨78,.sc (.int .i64 y_154.Length),some 6,[]⟩,⟨79,.ptr 3 (0 + (y_153).toNat * 1),some 7,[]⟩] [⟨[2],0,0,some (72,.own 3 1 0 x_149.2.2.length),[]⟩,⟨[7],0,1,some (73,.sc (.int .i64 y_153)),[]⟩,⟨[0],0,0,some (74,.rd β1 a0.length (a0.flatMap encR38)),[]⟩,⟨[7],0,1,some (75,.sc (.int .i64 y_153)),[]⟩,⟨[10,11],0,1,some (76,.rptr β1 [.sc (.int .i64 y_154.Release),.sc (.int .i64 y_154.Length),.sc (.int .i64 y_154.Due)]),[]⟩,⟨[12],0,1,some (77,.rptr β1 [.sc (.int .i64 y_154.Length),.sc (.int .i64 y_154.Due)]),[]⟩,⟨[13],0,1,some (78,.sc (.int .i64 y_154.Length)),[]⟩,⟨[8,9],0,0,some (79,.ptr 3 (0 + (y_153).toNat * 1)),[]⟩,⟨[15,14],0,0,none,[]⟩] [8] [[(1,⟨30,false,[.rd β1 a0.length (a0.flatMap encR38)]⟩),(2,⟨3,true,y_17.flatMap (encI .i64)⟩),(4,⟨26,false,[.own 3 1 0 x_149.2.2.length]⟩),(5,⟨3,true,x_149.2.1.flatMap (encI .i64)⟩),(6,⟨3,true,x_124.2.2.2.1.flatMap (encI .i64)⟩),(3,⟨3,true,x_149.2.2.flatMap (encI .i64)⟩)],[(1,⟨30,false,[.rd β1 a0.length (a0.flatMap encR38)]⟩),(2,⟨3,true,y_17.flatMap (encI .i64)⟩),(4,⟨26,false,[.own 3 1 0 l3_156.length]⟩),(5,⟨3,true,x_149.2.1.flatMap (encI .i64)⟩),(6,⟨3,true,x_124.2.2.2.1.flatMap (encI .i64)⟩),(3,⟨3,true,l3_156.flatMap (encI .i64)⟩)]] [[],[],[],[],[2,3],[2,3,4],[2,3,4,5],[0,1,2,3,4,5,6],[0,1,2,3,4,5,6,7]] (by kernel_rfl) (by kernel_rfl) (BornL.ok (.o<| .o<| .o<| .o<| .o<| .o<| .o<| .o<| .b rfl rfl<| .b rfl rfl<| .b rfl rfl<| .b rfl rfl<| .b rfl rfl<| .b rfl rfl<| .b rfl rfl<| .b rfl rfl<| .n)) (BaseL.ok (.o rfl<| .o rfl<| .o rfl<| .o rfl<| .o rfl<| .o rfl<| .o rfl<| .o rfl<| .b<| .b<| .b<| .b<| .b<| .b<| .b<| .b<| .n)) rfl (by decide) (allLt rfl) (.read rfl (.c (.put (fun E hE => .loadP (lt1 rfl) (.tmp (hE.at (k := 0) rfl)) one26 rfl rfl rfl)) (.n))<| .pure rfl (fun H => .put (fun E hE => .move (lt1 rfl) (.tmp (hE.at (k := 0) rfl))))<| .read rfl (.c (.put (fun E hE => .loadP (lt1 rfl) (.tmp (hE.at (k := 0) rfl)) one30 rfl rfl rfl)) (.n))<| .pure rfl (fun H => .put (fun E hE => .move (lt1 rfl) (.tmp (hE.at (k := 0) rfl))))<| .pure rfl (fun H => .put (fun E hE => .indexRd (enc := encR38) (lt1 rfl) (.tmp (hE.at (k := 0) rfl)) (.tmp (hE.at (k := 1) rfl)) Try.underlying30 sz40 encR38_len rfl hy_154))<| .pure rfl (fun H => .put (fun E hE => .fieldR (lt1 rfl) (.tmp (hE.at (k := 0) rfl)) fld40_1 rfl))<| .pure rfl (fun H => .put (fun E hE => .loadR (v := .sc (.int .i64 y_154.Length)) (lt1 rfl) (.tmp (hE.at (k := 0) rfl)) one3 rfl))<| .read rfl (.c (.put (fun E hE => .idxOwn (lt1 rfl) (.tmp (hE.at (k := 0) rfl)) (.tmp (hE.at (k := 1) rfl)) Try.underlying26 sz3 rfl hy_155)) (.n))<| .turn rfl rfl rfl rfl rfl (.store (fun E hE => .storeP (.tmp (hE.at (k := 0) rfl)) (.tmp (hE.at (k := 1) rfl)) sz3 rfl (lt_at1 (encI_len .i64) hy_155) rfl (fun _ => rfl) (set_at1 (encI_len .i64) hl3_156 rfl)) (congrArg (fun n_ : Nat => ([(1,⟨30,false,[.rd β1 a0.length (a0.flatMap encR38)]⟩),(2,⟨3,true,y_17.flatMap (encI .i64)⟩),(4,⟨26,false,[.own 3 1 0 n_]⟩),(5,⟨3,true,x_149.2.1.flatMap (encI .i64)⟩),(6,⟨3,true,x_124.2.2.2.1.flatMap (encI .i64)⟩),(3,⟨3,true,l3_156.flatMap (encI .i64)⟩)] : List (Nat × Blk))) (setLen hl3_156)))<| .nil _) (fun E hE => .c (DInv.at hE (k := 0) rfl rfl rfl)<| .c (DInv.at hE (k := 1) rfl rfl rfl)<| .c (DInv.at hE (k := 2) rfl rfl rfl)<| .c (DInv.at hE (k := 3) rfl rfl rfl)<| .c (DInv.at hE (k := 4) rfl rfl rfl)<| .c (DInv.at hE (k := 5) rfl rfl rfl)<| .c (DInv.at hE (k := 6) rfl rfl rfl)<| .c (DInv.at hE (k := 7) rfl rfl rfl)<| .n _) rfl ?_
              refine AWP.vc (s' := ⟨[(1,.ptr 1 0),(3,.own 2 1 0 y_17.length),(5,.ptr 4 0),(6,.own 5 1 0 x_149.2.1.length),(7,.own 6 1 0 x_124.2.2.2.1.length),(8,.sc (.int .i64 p_129)),(9,.sc (.int .i64 x_149.1)),(10,.sc (.int .i64 y_153))],[(1,⟨30,false,[.rd β1 a0.length (a0.flatMap encR38)]⟩),(2,⟨3,true,y_17.flatMap (encI .i64)⟩),(4,⟨26,false,[.own 3 1 0 l3_156.length]⟩),(5,⟨3,true,x_149.2.1.flatMap (encI .i64)⟩),(6,⟨3,true,x_124.2.2.2.1.flatMap (encI .i64)⟩),(3,⟨3,true,l3_156.flatMap (encI .i64)⟩)]⟩) (VC.sub (.c rfl<| .c rfl<| .c rfl<| .c rfl<| .c rfl<| .c rfl<| .c rfl<| .c rfl<| .n _) (.c rfl<| .c rfl<| .c rfl<| .c rfl<| .c rfl<| .c rfl<| .n _)) ?_
              obtain ⟨l5_157,hl5_157,h⟩ := bindS h
              refine AWP.region (.cons (.move (lt1 rfl) (.tmp rfl))<| .cons (.move (lt1 rfl) (.tmp rfl))<| .cons (.buildSlice (t := 7) (out := ([y_153] : List Int).flatMap (encI .i64)) (lt1 rfl) (nm rfl) (.cons (.tmp rfl) (by first | exact ⟨rfl,rfl⟩ | rfl) (.nil)) Try.underlying26 zero3 el3 (by decide) (by decide) rfl (still_all (encI_still .i64) _))<| .cons (.app (enc := (encI .i64)) (lt1 rfl) (nm rfl) (.tmp rfl) (Src.own (.tmp rfl) rfl (lendAll (encI_len .i64) _) (flatMap_length (encI_len .i64) _) (one_all (encI_one .i64) _) (.inl rfl)) Try.underlying26 ⟨_,Try.underlying26,by intro k hk; cases hk⟩ el3 rfl (encI_len .i64) rfl rfl (by decide) hl5_157)<| .cons (.assign (lt1 rfl) (.tmp rfl))<| ARun.nil _ _ _) ?_
              refine AWP.vc (s' := ⟨[(1,.ptr 1 0),(3,.own 2 1 0 y_17.length),(5,.ptr 4 0),(6,.own 5 1 0 l5_157.length),(7,.own 6 1 0 x_124.2.2.2.1.length),(8,.sc (.int .i64 p_129)),(9,.sc (.int .i64 x_149.1))],[(5,⟨3,true,l5_157.flatMap (encI .i64)⟩),(1,⟨30,false,[.rd β1 a0.length (a0.flatMap encR38)]⟩),(2,⟨3,true,y_17.flatMap (encI .i64)⟩),(4,⟨26,false,[.own 3 1 0 l3_156.length]⟩),(6,⟨3,true,x_124.2.2.2.1.flatMap (encI .i64)⟩),(3,⟨3,true,l3_156.flatMap (encI .i64)⟩)]⟩) (VC.sub (.c rfl<| .c rfl<| .c rfl<| .c rfl<| .c rfl<| .c rfl<| .c rfl<| .n _) (.c rfl<| .c rfl<| .c rfl<| .c rfl<| .c rfl<| .c rfl<| .n _)) ?_
              obtain ⟨t9_158,ht9_158,h⟩ := letS h
              refine AWP.region (.cons (.move (lt1 rfl) (.tmp rfl))<| .cons (.add (lt1 rfl) (.tmp rfl) (.const _ _ _))<| .cons (.assign (lt1 rfl) (.tmp rfl))<| ARun.nil _ _ _) ?_
              exact endJ (t9_158,l5_157,l3_156) h (by subst ht9_158; exact VC.sub (.c rfl<| .c rfl<| .c rfl<| .c rfl<| .c rfl<| .c rfl<| .c rfl<| .n _) (.c rfl<| .c rfl<| .c rfl<| .c rfl<| .c rfl<| .c rfl<| .n _))
            · have h := iteF hc h
              refine AWP.exit ?_
              exact endJ (x_149.1,x_149.2.1,x_149.2.2) h (VC.sub (.c rfl<| .c rfl<| .c rfl<| .c rfl<| .c rfl<| .c rfl<| .c rfl<| .n _) (.c rfl<| .c rfl<| .c rfl<| .c rfl<| .c rfl<| .c rfl<| .n _))
        · refine AWP.cond (.tmp rfl) (fun hc => ?_) (fun hc => ?_)
          · have h := iteT hc h
            obtain ⟨y_126,hy_126,h⟩ := bindS h
            obtain ⟨y_127,hy_127,h⟩ := bindS h
            obtain ⟨t8_128,ht8_128,h⟩ := letS h
            refine AWP.draw (s' := ⟨[(1,.ptr 1 0),(3,.own 2 1 0 y_17.length),(5,.ptr 4 0),(6,.own 5 1 0 x_124.2.2.1.length),(7,.own 6 1 0 x_124.2.2.2.1.length),(8,.sc (.int .i64 (if y_127.Release > x_124.1 then y_127.Release else x_124.1))),(9,.sc (.int .i64 x_124.2.1))],[(1,⟨30,false,[.rd β1 a0.length (a0.flatMap encR38)]⟩),(2,⟨3,true,y_17.flatMap (encI .i64)⟩),(4,⟨26,false,[.own 3 1 0 x_124.2.2.2.2.length]⟩),(5,⟨3,true,x_124.2.2.1.flatMap (encI .i64)⟩),(6,⟨3,true,x_124.2.2.2.1.flatMap (encI .i64)⟩),(3,⟨3,true,x_124.2.2.2.2.flatMap (encI .i64)⟩)]⟩) mixed [⟨1,.ptr 1 0,none,[]⟩,⟨3,.own 2 1 0 y_17.length,none,[]⟩,⟨5,.ptr 4 0,none,[]⟩,⟨6,.own 5 1 0 x_124.2.2.1.length,none,[]⟩,⟨7,.own 6 1 0 x_124.2.2.2.1.length,none,[]⟩,⟨8,.sc (.int .i64 x_124.1),none,[10]⟩,⟨9,.sc (.int .i64 x_124.2.1),none,[]⟩,⟨39,.sc (.bool (decide ((x_124.2.2.1.length : Int) = (0 : Int)))),none,[]⟩,⟨40,.sc (.int .i64 x_124.1),some 0,[]⟩,⟨41,.rd β1 a0.length (a0.flatMap encR38),some 1,[]⟩,⟨42,.own 2 1 0 y_17.length,some 2,[]⟩,⟨43,.sc (.int .i64 x_124.2.1),some 3,[]⟩,⟨44,.ptr 2 (0 + (x_124.2.1).toNat * 1),some 4,[]⟩,⟨45,.sc (.int .i64 y_126),some 5,[]⟩,⟨46,.rptr β1 [.sc (.int .i64 y_127.Release),.sc (.int .i64 y_127.Length),.sc (.int .i64 y_127.Due)],some 6,[]⟩,⟨47,.rptr β1 [.sc (.int .i64 y_127.Release),.sc (.int .i64 y_127.Length),.sc (.int .i64 y_127.Due)],some 7,[]⟩,⟨48,.sc (.int .i64 y_127.Release),some 8,[]⟩,⟨49,.sc (.int .i64 (if y_127.Release > x_124.1 then y_127.Release else x_124.1)),some 9,[]⟩,⟨8,.sc (.int .i64 (if y_127.Release > x_124.1 then y_127.Release else x_124.1)),some 10,[]⟩] [⟨[5],0,0,some (40,.sc (.int .i64 x_124.1)),[]⟩,⟨[0],0,0,some (41,.rd β1 a0.length (a0.flatMap encR38)),[]⟩,⟨[1],0,0,some (42,.own 2 1 0 y_17.length),[]⟩,⟨[6],0,0,some (43,.sc (.int .i64 x_124.2.1)),[]⟩,⟨[10,11],0,0,some (44,.ptr 2 (0 + (x_124.2.1).toNat * 1)),[]⟩,⟨[12],0,0,some (45,.sc (.int .i64 y_126)),[]⟩,⟨[9,13],0,0,some (46,.rptr β1 [.sc (.int .i64 y_127.Release),.sc (.int .i64 y_127.Length),.sc (.int .i64 y_127.Due)]),[]⟩,⟨[14],0,0,some (47,.rptr β1 [.sc (.int .i64 y_127.Release),.sc (.int .i64 y_127.Length),.sc (.int .i64 y_127.Due)]),[]⟩,⟨[15],0,0,some (48,.sc (.int .i64 y_127.Release)),[]⟩,⟨[8,16],0,0,some (49,.sc (.int .i64 (if y_127.Release > x_124.1 then y_127.Release else x_124.1))),[]⟩,⟨[17],0,0,some (8,.sc (.int .i64 (if y_127.Release > x_124.1 then y_127.Release else x_124.1))),[]⟩] [] [[(1,⟨30,false,[.rd β1 a0.length (a0.flatMap encR38)]⟩),(2,⟨3,true,y_17.flatMap (encI .i64)⟩),(4,⟨26,false,[.own 3 1 0 x_124.2.2.2.2.length]⟩),(5,⟨3,true,x_124.2.2.1.flatMap (encI .i64)⟩),(6,⟨3,true,x_124.2.2.2.1.flatMap (encI .i64)⟩),(3,⟨3,true,x_124.2.2.2.2.flatMap (encI .i64)⟩)]] [[],[],[],[],[2,3],[2,3,4],[1,2,3,4,5],[1,2,3,4,5,6],[1,2,3,4,5,6,7],[0,1,2,3,4,5,6,7,8],[0,1,2,3,4,5,6,7,8,9]] (by kernel_rfl) (by kernel_rfl) (BornL.ok (.o<| .o<| .o<| .o<| .o<| .o<| .o<| .o<| .b rfl rfl<| .b rfl rfl<| .b rfl rfl<| .b rfl rfl<| .b rfl rfl<| .b rfl rfl<| .b rfl rfl<| .b rfl rfl<| .b rfl rfl<| .b rfl rfl<| .b rfl rfl<| .n)) (BaseL.ok (.o rfl<| .o rfl<| .o rfl<| .o rfl<| .o rfl<| .o rfl<| .o rfl<| .o rfl<| .b<| .b<| .b<| .b<| .b<| .b<| .b<| .b<| .b<| .b<| .b<| .n)) rfl (by decide) (allLt rfl) (.pure rfl (fun H => .put (fun E hE => .move (lt1 rfl) (.tmp (hE.at (k := 0) rfl))))<| .read rfl (.c (.put (fun E hE => .loadP (lt1 rfl) (.tmp (hE.at (k := 0) rfl)) one30 rfl rfl rfl)) .n)<| .read rfl (.c (.put (fun E hE => .move (lt1 rfl) (.tmp (hE.at (k := 0) rfl)))) .n)<| .pure rfl (fun H => .put (fun E hE => .move (lt1 rfl) (.tmp (hE.at (k := 0) rfl))))<| .read rfl (.c (.put (fun E hE => .idxOwn (lt1 rfl) (.tmp (hE.at (k := 0) rfl)) (.tmp (hE.at (k := 1) rfl)) Try.underlying26 sz3 rfl hy_126)) .n)<| .read rfl (.c (.put (fun E hE => .loadP (lt1 rfl) (.tmp (hE.at (k := 0) rfl)) one3 rfl (cell_at1 (encI_len .i64) hy_126) rfl)) .n)<| .pure rfl (fun H => .put (fun E hE => .indexRd (enc := encR38) (lt1 rfl) (.tmp (hE.at (k := 0) rfl)) (.tmp (hE.at (k := 1) rfl)) Try.underlying30 sz40 encR38_len rfl hy_127))<| .pure rfl (fun H => .put (fun E hE => .fieldR (lt1 rfl) (.tmp (hE.at (k := 0) rfl)) fld40_0 rfl))<| .pure rfl (fun H => .put (fun E hE => .loadR (v := .sc (.int .i64 y_127.Release)) (lt1 rfl) (.tmp (hE.at (k := 0) rfl)) one3 rfl))<| .pure rfl (fun H => .put (fun E hE => .max2 (lt1 rfl) (.tmp (hE.at (k := 0) rfl)) (.tmp (hE.at (k := 1) rfl))))<| .pure rfl (fun H => .put (fun E hE => .assign (lt1 rfl) (.tmp (hE.at (k := 0) rfl))))<| .nil _) (fun E hE => .c (DInv.at hE (k := 0) rfl rfl rfl)<| .c (DInv.at hE (k := 1) rfl rfl rfl)<| .c (DInv.at hE (k := 2) rfl rfl rfl)<| .c (DInv.at hE (k := 3) rfl rfl rfl)<| .c (DInv.at hE (k := 4) rfl rfl rfl)<| .c (DInv.at hE (k := 18) rfl rfl rfl)<| .c (DInv.at hE (k := 6) rfl rfl rfl)<| .n _) rfl ?_
            exact endJ t8_128 h (by subst ht8_128; exact VC.sub (.c rfl<| .c rfl<| .c rfl<| .c rfl<| .c rfl<| .c rfl<| .c rfl<| .n _) (.c rfl<| .c rfl<| .c rfl<| .c rfl<| .c rfl<| .c rfl<| .n _))
          · have h := iteF hc h
            refine AWP.skip ?_
            exact endJ x_124.1 h (VC.sub (.c rfl<| .c rfl<| .c rfl<| .c rfl<| .c rfl<| .c rfl<| .c rfl<| .n _) (.c rfl<| .c rfl<| .c rfl<| .c rfl<| .c rfl<| .c rfl<| .n _))
      · have h := iteF hc h
        refine AWP.exit ?_
        exact endJ x_124.2.2.2.1 h (VC.sub (.c rfl<| .n _) (.c rfl<| .n _))
  · refine AWP.vc (s' := ⟨[(1,.ptr 1 0),(3,.own 2 1 0 l2_1.length),(17,.sc (.int .i64 (l2_1.length : Int))),(18,.sc (.int .i64 (0 : Int)))],[(1,⟨30,false,[.rd β1 a0.length (a0.flatMap encR38)]⟩),(2,⟨3,true,l2_1.flatMap (encI .i64)⟩)]⟩) (VC.sub (.c rfl<| .c rfl<| .c rfl<| .c rfl<| .n _) (.c rfl<| .c rfl<| .n _)) ?_
    refine AWP.loopM (S := fun x_10 : Int × (List Int) => ⟨[(1,.ptr 1 0),(3,.own 2 1 0 x_10.2.length),(17,.sc (.int .i64 (l2_1.length : Int))),(18,.sc (.int .i64 x_10.1))],[(1,⟨30,false,[.rd β1 a0.length (a0.flatMap encR38)]⟩),(2,⟨3,true,x_10.2.flatMap (encI .i64)⟩)]⟩) (x := ((0 : Int),l2_1)) (fun nx_11 x_10 h => ?_) h
    unfold m50_L1 at h
    refine AWP.seq ?_
    refine AWP.region (.cons (.lss (lt1 rfl) (.tmp rfl) (.tmp rfl))<| ARun.nil _ _ _) ?_
    refine AWP.vc (s' := ⟨[(1,.ptr 1 0),(3,.own 2 1 0 x_10.2.length),(17,.sc (.int .i64 (l2_1.length : Int))),(18,.sc (.int .i64 x_10.1)),(19,.sc (.bool (decide (x_10.1 < (l2_1.length : Int)))))],[(1,⟨30,false,[.rd β1 a0.length (a0.flatMap encR38)]⟩),(2,⟨3,true,x_10.2.flatMap (encI .i64)⟩)]⟩) (VC.sub (.c rfl<| .c rfl<| .c rfl<| .c rfl<| .c rfl<| .n _) (.c rfl<| .c rfl<| .n _)) ?_
    refine AWP.seq ?_
    refine AWP.cond (.tmp rfl) (fun hc => ?_) (fun hc => ?_)
    · have h := iteT hc h
      refine AWP.skip ?_
      refine AWP.seq ?_
      refine AWP.block ?_
      refine AWP.seq ?_
      refine AWP.region (.cons (.move (lt1 rfl) (.tmp rfl))<| .cons (.assign (lt1 rfl) (.tmp rfl))<| ARun.nil _ _ _) ?_
      refine AWP.vc (s' := ⟨[(1,.ptr 1 0),(3,.own 2 1 0 x_10.2.length),(17,.sc (.int .i64 (l2_1.length : Int))),(18,.sc (.int .i64 x_10.1)),(4,.sc (.int .i64 x_10.1))],[(1,⟨30,false,[.rd β1 a0.length (a0.flatMap encR38)]⟩),(2,⟨3,true,x_10.2.flatMap (encI .i64)⟩)]⟩) (VC.sub (.c rfl<| .c rfl<| .c rfl<| .c rfl<| .c rfl<| .n _) (.c rfl<| .c rfl<| .n _)) ?_
      obtain ⟨y_12,hy_12,h⟩ := bindS h
      obtain ⟨l2_13,hl2_13,h⟩ := bindS h
      refine AWP.region (.cons (.move (lt1 rfl) (.tmp rfl))<| .cons (.move (lt1 rfl) (.tmp rfl))<| .cons (.move (lt1 rfl) (.tmp rfl))<| .cons (.idxOwn (lt1 rfl) (.tmp rfl) (.tmp rfl) Try.underlying26 sz3 rfl hy_12)<| .cons (.storeP (.tmp rfl) (.tmp rfl) sz3 rfl (lt_at1 (encI_len .i64) hy_12) rfl (fun _ => rfl) (set_at1 (encI_len .i64) hl2_13 rfl))<| ARun.nil _ _ _) ?_
      refine AWP.vc (s' := ⟨[(1,.ptr 1 0),(3,.own 2 1 0 l2_13.length),(17,.sc (.int .i64 (l2_1.length : Int))),(18,.sc (.int .i64 x_10.1))],[(1,⟨30,false,[.rd β1 a0.length (a0.flatMap encR38)]⟩),(2,⟨3,true,l2_13.flatMap (encI .i64)⟩)]⟩) (VC.sub (.c rfl<| .c (lenC (Eq.symm (setLen hl2_13)) rfl)<| .c rfl<| .c rfl<| .n _) (.c rfl<| .c rfl<| .n _)) ?_
      obtain ⟨t18_14,ht18_14,h⟩ := letS h
      refine AWP.region (.cons (.add (lt1 rfl) (.tmp rfl) (.const _ _ _))<| .cons (.move (lt1 rfl) (.tmp rfl))<| ARun.nil _ _ _) ?_
      exact endJ (t18_14,l2_13) h (by subst ht18_14; exact VC.sub (.c rfl<| .c rfl<| .c rfl<| .c rfl<| .n _) (.c rfl<| .c rfl<| .n _))
    · have h := iteF hc h
      refine AWP.exit ?_
      exact endJ x_10.2 h (VC.sub (.c rfl<| .c rfl<| .n _) (.c rfl<| .c rfl<| .n _))
theorem c33 {β1 : Bool} (n : Nat) (a0 : (List R38)) {r : ((List Int) × Int)} (h : m33 n a0 = some r) : Spec Try.prog 33 [] [.rd β1 a0.length (a0.flatMap encR38)] [] (.tup [.rd false r.1.length (r.1.flatMap (encI .i64)),.sc (.int .i64 r.2)]) [] := by
  refine Spec.of (fn := Try.f33) Try.func33 Try.ntmps33 rfl rfl (le1 rfl) (fun w0 Zs Zb T0 ι0 => ?_)
  unfold m33 at h
  refine AWP.seq ?_
  refine AWP.region (.cons (.assign (lt1 rfl) (.const _ _ _))<| .cons (.assign (lt1 rfl) (.const _ _ _))<| ARun.nil _ _ _) ?_
  refine AWP.vc (s' := ⟨[(0,.rd β1 a0.length (a0.flatMap encR38))],[]⟩) (VC.sub (.c rfl<| .n _) (.n _)) ?_
  refine AWP.seq ?_
  refine AWP.seq ?_
  obtain ⟨y_1,hy_1,h⟩ := bindS h
  refine AWP.region (.cons (.move (lt1 rfl) (.tmp rfl))<| .cons (.call0 (bw := false) (lt1 rfl) (c14 (β1 := β1) n a0 hy_1) (.cons (.tmp rfl) (.ren rfl) (.nil)) rfl)<| .cons (.not (lt1 rfl) (.tmp rfl))<| ARun.nil _ _ _) ?_
  refine AWP.vc (s' := ⟨[(0,.rd β1 a0.length (a0.flatMap encR38)),(13,.sc (.bool (!y_1)))],[]⟩) (VC.sub (.c rfl<| .c rfl<| .n _) (.n _)) ?_
  refine AWP.cond (.tmp rfl) (fun hc => ?_) (fun hc => ?_)
  · have h := iteT hc h
    refine AWP.seq ?_
    refine AWP.region (.cons (.assign (lt1 rfl) (.const _ _ _))<| .cons (.assign (lt1 rfl) (.const _ _ _))<| ARun.nil _ _ _) ?_
    refine AWP.ret ?_
    obtain rfl := Option.some.inj h
    refine retJ (Res.vc (s' := ⟨[(2,.rd false ([] : List Int).length (([] : List Int).flatMap (encI .i64))),(3,.sc (.int .i64 (1 : Int)))],[]⟩) (VC.trans (VC.nilRd (d := 2) false rfl) (VC.sub (.c rfl<| .c rfl<| .n _) (.n _))) ?_)
    refine Res.drop (H := []) rfl ?_
    exact Res.of rfl (.cons (.tmp rfl) (.cons (.tmp rfl) (.nil))) rfl rfl
  · have h := iteF hc h
    refine AWP.skip ?_
    refine AWP.seq ?_
    refine AWP.region (.cons (.assign (lt1 rfl) (.const _ _ _))<| .cons (.assign (lt1 rfl) (.const _ _ _))<| ARun.nil _ _ _) ?_
    refine AWP.vc (s' := ⟨[(0,.rd β1 a0.length (a0.flatMap encR38)),(4,.sc (.slice none 0 0)),(5,.sc (.slice none 0 0))],[]⟩) (VC.sub (.c rfl<| .c rfl<| .c rfl<| .n _) (.n _)) ?_
    refine AWP.seq ?_
    refine AWP.seq ?_
    refine AWP.region (.cons (.assign (lt1 rfl) (.const _ _ _))<| ARun.nil _ _ _) ?_
    refine AWP.vc (s' := ⟨[(0,.rd β1 a0.length (a0.flatMap encR38)),(4,.sc (.slice none 0 0)),(5,.sc (.slice none 0 0)),(6,.sc (.int .i64 (0 : Int)))],[]⟩) (VC.sub (.c rfl<| .c rfl<| .c rfl<| .c rfl<| .n _) (.n _)) ?_
    refine AWP.joinB' (S := fun p_15 : (List Int) => ⟨[(0,.rd β1 a0.length (a0.flatMap encR38)),(4,.own 1 1 0 p_15.length),(5,.sc (.slice none 0 0))],[(1,⟨3,true,p_15.flatMap (encI .i64)⟩)]⟩) h (fun p_15 h => ?_) (fun k_16 h => ?_)
    · refine AWP.seq ?_
      refine AWP.region (.cons (.assign (lt1 rfl) (.const _ _ _))<| ARun.nil _ _ _) ?_
      refine AWP.vc (s' := ⟨[(0,.rd β1 a0.length (a0.flatMap encR38)),(4,.own 1 1 0 p_15.length),(5,.sc (.slice none 0 0)),(7,.sc (.int .i64 (0 : Int)))],[(1,⟨3,true,p_15.flatMap (encI .i64)⟩)]⟩) (VC.sub (.c rfl<| .c rfl<| .c rfl<| .c rfl<| .n _) (.c rfl<| .n _)) ?_
      refine AWP.seq ?_
      refine AWP.joinB' (S := fun p_213 : (List Int) => ⟨[(5,.own 3 1 0 p_213.length)],[(3,⟨3,true,p_213.flatMap (encI .i64)⟩)]⟩) h (fun p_213 h => ?_) (fun k_214 h => ?_)
      · refine AWP.seq ?_
        refine AWP.region (.cons (.move (lt1 rfl) (.tmp rfl))<| .cons (.assign (lt1 rfl) (.tmp rfl))<| .cons (.assign (lt1 rfl) (.const _ _ _))<| ARun.nil _ _ _) ?_
        refine AWP.ret ?_
        obtain rfl := Option.some.inj h
        refine retJ (Res.vc (s' := ⟨[(2,.rd false p_213.length (p_213.flatMap (encI .i64))),(3,.sc (.int .i64 (0 : Int)))],[]⟩) (VC.trans (VC.frz (d := 2) (t := 3) rfl rfl (encI_len .i64)) (VC.sub (.c rfl<| .c rfl<| .n _) (.n _))) ?_)
        refine Res.drop (H := []) rfl ?_
        exact Res.of rfl (.cons (.tmp rfl) (.cons (.tmp rfl) (.nil))) rfl rfl
      · refine AWP.vc (VC.nilOwn (d := 5) (t := 3) (sz := 1) (E := 3) rfl (nm rfl)) ?_
        refine AWP.vc (s' := ⟨[(0,.rd β1 a0.length (a0.flatMap encR38)),(4,.own 1 1 0 p_15.length),(5,.own 3 1 0 ([] : List Int).length),(7,.sc (.int .i64 (0 : Int)))],[(1,⟨3,true,p_15.flatMap (encI .i64)⟩),(3,⟨3,true,([] : List Int).flatMap (encI .i64)⟩)]⟩) (VC.sub (.c rfl<| .c rfl<| .c rfl<| .c rfl<| .n _) (.c rfl<| .c rfl<| .n _)) ?_
        refine AWP.loopM (S := fun x_147 : Int × (List Int) × (List Int) => ⟨[(0,.rd β1 a0.length (a0.flatMap encR38)),(4,.own 1 1 0 x_147.2.1.length),(5,.own 3 1 0 x_147.2.2.length),(7,.sc (.int .i64 x_147.1))],[(1,⟨3,true,x_147.2.1.flatMap (encI .i64)⟩),(3,⟨3,true,x_147.2.2.flatMap (encI .i64)⟩)]⟩) (x := ((0 : Int),p_15,([] : List Int))) (fun nx_148 x_147 h => ?_) h
        unfold m33_L4 at h
        refine AWP.seq ?_
        refine AWP.seq ?_
        refine AWP.region (.cons (.move (lt1 rfl) (.tmp rfl))<| .cons (.lenOwn (lt1 rfl) (.tmp rfl) Try.underlying26)<| .cons (.move (lt1 rfl) (.tmp rfl))<| .cons (.lenRd (lt1 rfl) (.tmp rfl) Try.underlying22)<| .cons (.lss (lt1 rfl) (.tmp rfl) (.tmp rfl))<| ARun.nil _ _ _) ?_
        refine AWP.vc (s' := ⟨[(0,.rd β1 a0.length (a0.flatMap encR38)),(4,.own 1 1 0 x_147.2.1.length),(5,.own 3 1 0 x_147.2.2.length),(7,.sc (.int .i64 x_147.1)),(32,.sc (.bool (decide ((x_147.2.2.length : Int) < (a0.length : Int)))))],[(1,⟨3,true,x_147.2.1.flatMap (encI .i64)⟩),(3,⟨3,true,x_147.2.2.flatMap (encI .i64)⟩)]⟩) (VC.sub (.c rfl<| .c rfl<| .c rfl<| .c rfl<| .c rfl<| .n _) (.c rfl<| .c rfl<| .n _)) ?_
        refine AWP.cond (.tmp rfl) (fun hc => ?_) (fun hc => ?_)
        · have h := iteT hc h
          refine AWP.skip ?_
          refine AWP.block ?_
          refine AWP.seq ?_
          refine AWP.region (.cons (.assign (lt1 rfl) (.const _ _ _))<| .cons (.assign (lt1 rfl) (.const _ _ _))<| ARun.nil _ _ _) ?_
          refine AWP.vc (s' := ⟨[(0,.rd β1 a0.length (a0.flatMap encR38)),(4,.own 1 1 0 x_147.2.1.length),(5,.own 3 1 0 x_147.2.2.length),(7,.sc (.int .i64 x_147.1)),(8,.sc (.int .i64 (-1 : Int))),(9,.sc (.int .i64 (-1 : Int)))],[(1,⟨3,true,x_147.2.1.flatMap (encI .i64)⟩),(3,⟨3,true,x_147.2.2.flatMap (encI .i64)⟩)]⟩) (VC.sub (.c rfl<| .c rfl<| .c rfl<| .c rfl<| .c rfl<| .c rfl<| .n _) (.c rfl<| .c rfl<| .n _)) ?_
          refine AWP.seq ?_
          refine AWP.seq ?_
          refine AWP.region (.cons (.assign (lt1 rfl) (.const _ _ _))<| ARun.nil _ _ _) ?_
          refine AWP.vc (s' := ⟨[(0,.rd β1 a0.length (a0.flatMap encR38)),(4,.own 1 1 0 x_147.2.1.length),(5,.own 3 1 0 x_147.2.2.length),(7,.sc (.int .i64 x_147.1)),(8,.sc (.int .i64 (-1 : Int))),(9,.sc (.int .i64 (-1 : Int))),(10,.sc (.int .i64 (0 : Int)))],[(1,⟨3,true,x_147.2.1.flatMap (encI .i64)⟩),(3,⟨3,true,x_147.2.2.flatMap (encI .i64)⟩)]⟩) (VC.sub (.c rfl<| .c rfl<| .c rfl<| .c rfl<| .c rfl<| .c rfl<| .c rfl<| .n _) (.c rfl<| .c rfl<| .n _)) ?_
          refine AWP.joinB' (S := fun p_198 : Int × Int => ⟨[(0,.rd β1 a0.length (a0.flatMap encR38)),(4,.own 1 1 0 x_147.2.1.length),(5,.own 3 1 0 x_147.2.2.length),(7,.sc (.int .i64 x_147.1)),(8,.sc (.int .i64 p_198.1)),(9,.sc (.int .i64 p_198.2))],[(1,⟨3,true,x_147.2.1.flatMap (encI .i64)⟩),(3,⟨3,true,x_147.2.2.flatMap (encI .i64)⟩)]⟩) h (fun p_198 h => ?_) (fun k_199 h => ?_)
          · refine AWP.block ?_
            refine AWP.seq ?_
            refine AWP.region (.cons (.move (lt1 rfl) (.tmp rfl))<| .cons (.lss (lt1 rfl) (.tmp rfl) (.const _ _ _))<| .cons (.assign (lt1 rfl) (.tmp rfl))<| ARun.nil _ _ _) ?_
            refine AWP.vc (s' := ⟨[(0,.rd β1 a0.length (a0.flatMap encR38)),(4,.own 1 1 0 x_147.2.1.length),(5,.own 3 1 0 x_147.2.2.length),(7,.sc (.int .i64 x_147.1)),(8,.sc (.int .i64 p_198.1)),(9,.sc (.int .i64 p_198.2)),(97,.sc (.bool (decide (p_198.1 < (0 : Int)))))],[(1,⟨3,true,x_147.2.1.flatMap (encI .i64)⟩),(3,⟨3,true,x_147.2.2.flatMap (encI .i64)⟩)]⟩) (VC.sub (.c rfl<| .c rfl<| .c rfl<| .c rfl<| .c rfl<| .c rfl<| .c rfl<| .n _) (.c rfl<| .c rfl<| .n _)) ?_
            refine AWP.join' (S := fun p_211 : Int × (List Int) × (List Int) => ⟨[(0,.rd β1 a0.length (a0.flatMap encR38)),(4,.own 1 1 0 p_211.2.1.length),(5,.own 3 1 0 p_211.2.2.length),(7,.sc (.int .i64 p_211.1))],[(1,⟨3,true,p_211.2.1.flatMap (encI .i64)⟩),(3,⟨3,true,p_211.2.2.flatMap (encI .i64)⟩)]⟩) h (fun p_211 h => ?_) (fun k_212 h => ?_)
            · exact endJ (p_211.1,p_211.2.1,p_211.2.2) h (VC.sub (.c rfl<| .c rfl<| .c rfl<| .c rfl<| .n _) (.c rfl<| .c rfl<| .n _))
            · refine AWP.cond (.tmp rfl) (fun hc => ?_) (fun hc => ?_)
              · have h := iteT hc h
                refine AWP.region (.cons (.move (lt1 rfl) (.tmp rfl))<| .cons (.assign (lt1 rfl) (.tmp rfl))<| ARun.nil _ _ _) ?_
                exact endJ (p_198.2,x_147.2.1,x_147.2.2) h (VC.sub (.c rfl<| .c rfl<| .c rfl<| .c rfl<| .n _) (.c rfl<| .c rfl<| .n _))
              · have h := iteF hc h
                refine AWP.seq ?_
                obtain ⟨y_200,hy_200,h⟩ := bindS h
                refine AWP.region (.cons (.move (lt1 rfl) (.tmp rfl))<| .cons (.geq (lt1 rfl) (.tmp rfl) (.const _ _ _))<| .cons (.move (lt1 rfl) (.tmp rfl))<| .guard (j := 2) (dj := 104) rfl (lt1 rfl) rfl (lt1 rfl) (fun hg => .move (lt1 rfl) (.tmp rfl))<| .guard (j := 2) (dj := 104) rfl (lt1 rfl) rfl (lt1 rfl) (fun hg => .move (lt1 rfl) (.tmp rfl))<| .guard (j := 2) (dj := 104) rfl (lt1 rfl) rfl (lt1 rfl) (fun hg => .move (lt1 rfl) (.tmp rfl))<| .guard (j := 2) (dj := 104) rfl (lt1 rfl) rfl (lt1 rfl) (fun hg => .move (lt1 rfl) (.tmp rfl))<| .guard (j := 2) (dj := 104) rfl (lt1 rfl) rfl (lt1 rfl) (fun hg => .idxOwn (lt1 rfl) (.gd hg (.tmp rfl)) (.gd hg (.tmp rfl)) Try.underlying26 sz3 rfl (gdB hy_200 hg))<| .guard (j := 2) (dj := 104) rfl (lt1 rfl) rfl (lt1 rfl) (fun hg => .loadP (lt1 rfl) (.gd hg (.tmp rfl)) one3 rfl (cell_at1 (encI_len .i64) (gdB hy_200 hg)) rfl)<| .guard (j := 2) (dj := 104) rfl (lt1 rfl) rfl (lt1 rfl) (fun hg => .add (lt1 rfl) (.gd hg (.tmp rfl)) (.gd hg (.tmp rfl)))<| .guard (j := 2) (dj := 104) rfl (lt1 rfl) rfl (lt1 rfl) (fun hg => .lss (lt1 rfl) (.gd hg (.tmp rfl)) (.gd hg (.tmp rfl)))<| .cons (.pickAnd (lt1 rfl) (.tmp rfl) (.tmp rfl) (.const _ _ _))<| .cons (.assign (lt1 rfl) (.tmp rfl))<| ARun.nil _ _ _) ?_
                refine AWP.vc (s' := ⟨[(0,.rd β1 a0.length (a0.flatMap encR38)),(4,.own 1 1 0 x_147.2.1.length),(5,.own 3 1 0 x_147.2.2.length),(7,.sc (.int .i64 x_147.1)),(8,.sc (.int .i64 p_198.1)),(9,.sc (.int .i64 p_198.2)),(101,.sc (.bool ((decide ((0 : Int) ≤ p_198.2)) && (decide (p_198.2 < (IntKind.wrap .i64 (x_147.1 + y_200)))))))],[(1,⟨3,true,x_147.2.1.flatMap (encI .i64)⟩),(3,⟨3,true,x_147.2.2.flatMap (encI .i64)⟩)]⟩) (VC.sub (.c rfl<| .c rfl<| .c rfl<| .c rfl<| .c rfl<| .c rfl<| .c rfl<| .n _) (.c rfl<| .c rfl<| .n _)) ?_
                refine AWP.join' (S := fun p_209 : Int × (List Int) × (List Int) => ⟨[(0,.rd β1 a0.length (a0.flatMap encR38)),(4,.own 1 1 0 p_209.2.1.length),(5,.own 3 1 0 p_209.2.2.length),(7,.sc (.int .i64 p_209.1))],[(1,⟨3,true,p_209.2.1.flatMap (encI .i64)⟩),(3,⟨3,true,p_209.2.2.flatMap (encI .i64)⟩)]⟩) h (fun p_209 h => ?_) (fun k_210 h => ?_)
                · exact endJ (p_209.1,p_209.2.1,p_209.2.2) h (VC.sub (.c rfl<| .c rfl<| .c rfl<| .c rfl<| .n _) (.c rfl<| .c rfl<| .n _))
                · refine AWP.cond (.tmp rfl) (fun hc => ?_) (fun hc => ?_)
                  · have h := iteT hc h
                    refine AWP.seq ?_
                    obtain ⟨y_201,hy_201,h⟩ := bindS h
                    obtain ⟨y_202,hy_202,h⟩ := bindS h
                    obtain ⟨l1_203,hl1_203,h⟩ := bindS h
                    refine AWP.region (.cons (.move (lt1 rfl) (.tmp rfl))<| .cons (.move (lt1 rfl) (.tmp rfl))<| .cons (.idxOwn (lt1 rfl) (.tmp rfl) (.tmp rfl) Try.underlying26 sz3 rfl hy_201)<| .cons (.loadP (lt1 rfl) (.tmp rfl) one3 rfl (cell_at1 (encI_len .i64) hy_201) rfl)<| .cons (.move (lt1 rfl) (.tmp rfl))<| .cons (.move (lt1 rfl) (.tmp rfl))<| .cons (.sub (lt1 rfl) (.tmp rfl) (.tmp rfl))<| .cons (.sub (lt1 rfl) (.tmp rfl) (.tmp rfl))<| .cons (.idxOwn (lt1 rfl) (.tmp rfl) (.tmp rfl) Try.underlying26 sz3 rfl hy_202)<| .cons (.storeP (.tmp rfl) (.tmp rfl) sz3 rfl (lt_at1 (encI_len .i64) hy_202) rfl (fun _ => rfl) (set_at1 (encI_len .i64) hl1_203 rfl))<| ARun.nil _ _ _) ?_
                    refine AWP.vc (s' := ⟨[(0,.rd β1 a0.length (a0.flatMap encR38)),(4,.own 1 1 0 l1_203.length),(5,.own 3 1 0 x_147.2.2.length),(9,.sc (.int .i64 p_198.2))],[(1,⟨3,true,l1_203.flatMap (encI .i64)⟩),(3,⟨3,true,x_147.2.2.flatMap (encI .i64)⟩)]⟩) (VC.sub (.c rfl<| .c (lenC (Eq.symm (setLen hl1_203)) rfl)<| .c rfl<| .c rfl<| .n _) (.c rfl<| .c rfl<| .n _)) ?_
                    refine AWP.region (.cons (.move (lt1 rfl) (.tmp rfl))<| .cons (.assign (lt1 rfl) (.tmp rfl))<| ARun.nil _ _ _) ?_
                    exact endJ (p_198.2,l1_203,x_147.2.2) h (VC.sub (.c rfl<| .c rfl<| .c rfl<| .c rfl<| .n _) (.c rfl<| .c rfl<| .n _))
                  · have h := iteF hc h
                    refine AWP.seq ?_
                    obtain ⟨y_204,hy_204,h⟩ := bindS h
                    obtain ⟨t7_205,ht7_205,h⟩ := letS h
                    refine AWP.region (.cons (.move (lt1 rfl) (.tmp rfl))<| .cons (.move (lt1 rfl) (.tmp rfl))<| .cons (.move (lt1 rfl) (.tmp rfl))<| .cons (.idxOwn (lt1 rfl) (.tmp rfl) (.tmp rfl) Try.underlying26 sz3 rfl hy_204)<| .cons (.loadP (lt1 rfl) (.tmp rfl) one3 rfl (cell_at1 (encI_len .i64) hy_204) rfl)<| .cons (.add (lt1 rfl) (.tmp rfl) (.tmp rfl))<| .cons (.assign (lt1 rfl) (.tmp rfl))<| ARun.nil _ _ _) ?_
                    refine AWP.vc (s' := ⟨[(0,.rd β1 a0.length (a0.flatMap encR38)),(4,.own 1 1 0 x_147.2.1.length),(5,.own 3 1 0 x_147.2.2.length),(7,.sc (.int .i64 t7_205)),(8,.sc (.int .i64 p_198.1))],[(1,⟨3,true,x_147.2.1.flatMap (encI .i64)⟩),(3,⟨3,true,x_147.2.2.flatMap (encI .i64)⟩)]⟩) (by subst ht7_205; exact VC.sub (.c rfl<| .c rfl<| .c rfl<| .c rfl<| .c rfl<| .n _) (.c rfl<| .c rfl<| .n _)) ?_
                    refine AWP.seq ?_
                    obtain ⟨y_206,hy_206,h⟩ := bindS h
                    obtain ⟨l1_207,hl1_207,h⟩ := bindS h
                    refine AWP.region (.cons (.move (lt1 rfl) (.tmp rfl))<| .cons (.move (lt1 rfl) (.tmp rfl))<| .cons (.idxOwn (lt1 rfl) (.tmp rfl) (.tmp rfl) Try.underlying26 sz3 rfl hy_206)<| .cons (.storeP (.tmp rfl) (.const _ _ _) sz3 rfl (lt_at1 (encI_len .i64) hy_206) rfl (fun _ => rfl) (set_at1 (encI_len .i64) hl1_207 rfl))<| ARun.nil _ _ _) ?_
                    refine AWP.vc (s' := ⟨[(0,.rd β1 a0.length (a0.flatMap encR38)),(4,.own 1 1 0 l1_207.length),(5,.own 3 1 0 x_147.2.2.length),(7,.sc (.int .i64 t7_205))],[(1,⟨3,true,l1_207.flatMap (encI .i64)⟩),(3,⟨3,true,x_147.2.2.flatMap (encI .i64)⟩)]⟩) (VC.sub (.c rfl<| .c (lenC (Eq.symm (setLen hl1_207)) rfl)<| .c rfl<| .c rfl<| .n _) (.c rfl<| .c rfl<| .n _)) ?_
                    obtain ⟨l3_208,hl3_208,h⟩ := bindS h
                    refine AWP.region (.cons (.move (lt1 rfl) (.tmp rfl))<| .cons (.move (lt1 rfl) (.tmp rfl))<| .cons (.buildSlice (t := 4) (out := ([t7_205] : List Int).flatMap (encI .i64)) (lt1 rfl) (nm rfl) (.cons (.tmp rfl) (by first | exact ⟨rfl,rfl⟩ | rfl) (.nil)) Try.underlying26 zero3 el3 (by decide) (by decide) rfl (still_all (encI_still .i64) _))<| .cons (.app (enc := (encI .i64)) (lt1 rfl) (nm rfl) (.tmp rfl) (Src.own (.tmp rfl) rfl (lendAll (encI_len .i64) _) (flatMap_length (encI_len .i64) _) (one_all (encI_one .i64) _) (.inl rfl)) Try.underlying26 ⟨_,Try.underlying26,by intro k hk; cases hk⟩ el3 rfl (encI_len .i64) rfl rfl (by decide) hl3_208)<| .cons (.assign (lt1 rfl) (.tmp rfl))<| ARun.nil _ _ _) ?_
                    exact endJ (t7_205,l1_207,l3_208) h (VC.sub (.c rfl<| .c rfl<| .c rfl<| .c rfl<| .n _) (.c rfl<| .c rfl<| .n _))
          · refine AWP.vc (s' := ⟨[(0,.rd β1 a0.length (a0.flatMap encR38)),(4,.own 1 1 0 x_147.2.1.length),(5,.own 3 1 0 x_147.2.2.length),(7,.sc (.int .i64 x_147.1)),(8,.sc (.int .i64 (-1 : Int))),(9,.sc (.int .i64 (-1 : Int))),(10,.sc (.int .i64 (0 : Int)))],[(1,⟨3,true,x_147.2.1.flatMap (encI .i64)⟩),(3,⟨3,true,x_147.2.2.flatMap (encI .i64)⟩)]⟩) (VC.sub (.c rfl<| .c rfl<| .c rfl<| .c rfl<| .c rfl<| .c rfl<| .c rfl<| .n _) (.c rfl<| .c rfl<| .n _)) ?_
            refine AWP.loopM (S := fun x_181 : Int × Int × Int => ⟨[(0,.rd β1 a0.length (a0.flatMap encR38)),(4,.own 1 1 0 x_147.2.1.length),(5,.own 3 1 0 x_147.2.2.length),(7,.sc (.int .i64 x_147.1)),(8,.sc (.int .i64 x_181.1)),(9,.sc (.int .i64 x_181.2.1)),(10,.sc (.int .i64 x_181.2.2))],[(1,⟨3,true,x_147.2.1.flatMap (encI .i64)⟩),(3,⟨3,true,x_147.2.2.flatMap (encI .i64)⟩)]⟩) (x := ((-1 : Int),(-1 : Int),(0 : Int))) (fun nx_182 x_181 h => ?_) h
            unfold m33_L5 at h
            refine AWP.seq ?_
            refine AWP.seq ?_
            refine AWP.region (.cons (.move (lt1 rfl) (.tmp rfl))<| .cons (.move (lt1 rfl) (.tmp rfl))<| .cons (.lenRd (lt1 rfl) (.tmp rfl) Try.underlying22)<| .cons (.lss (lt1 rfl) (.tmp rfl) (.tmp rfl))<| ARun.nil _ _ _) ?_
            refine AWP.vc (s' := ⟨[(0,.rd β1 a0.length (a0.flatMap encR38)),(4,.own 1 1 0 x_147.2.1.length),(5,.own 3 1 0 x_147.2.2.length),(7,.sc (.int .i64 x_147.1)),(8,.sc (.int .i64 x_181.1)),(9,.sc (.int .i64 x_181.2.1)),(10,.sc (.int .i64 x_181.2.2)),(36,.sc (.bool (decide (x_181.2.2 < (a0.length : Int)))))],[(1,⟨3,true,x_147.2.1.flatMap (encI .i64)⟩),(3,⟨3,true,x_147.2.2.flatMap (encI .i64)⟩)]⟩) (VC.sub (.c rfl<| .c rfl<| .c rfl<| .c rfl<| .c rfl<| .c rfl<| .c rfl<| .c rfl<| .n _) (.c rfl<| .c rfl<| .n _)) ?_
            refine AWP.cond (.tmp rfl) (fun hc => ?_) (fun hc => ?_)
            · have h := iteT hc h
              refine AWP.skip ?_
              refine AWP.seq ?_
              refine AWP.block ?_
              refine AWP.block ?_
              refine AWP.seq ?_
              obtain ⟨y_183,hy_183,h⟩ := bindS h
              refine AWP.region (.cons (.move (lt1 rfl) (.tmp rfl))<| .cons (.move (lt1 rfl) (.tmp rfl))<| .cons (.idxOwn (lt1 rfl) (.tmp rfl) (.tmp rfl) Try.underlying26 sz3 rfl hy_183)<| .cons (.loadP (lt1 rfl) (.tmp rfl) one3 rfl (cell_at1 (encI_len .i64) hy_183) rfl)<| .cons (.eql (lt1 rfl) (.tmp rfl) (.const _ _ _))<| .cons (.assign (lt1 rfl) (.tmp rfl))<| ARun.nil _ _ _) ?_
              refine AWP.vc (s' := ⟨[(0,.rd β1 a0.length (a0.flatMap encR38)),(4,.own 1 1 0 x_147.2.1.length),(5,.own 3 1 0 x_147.2.2.length),(7,.sc (.int .i64 x_147.1)),(8,.sc (.int .i64 x_181.1)),(9,.sc (.int .i64 x_181.2.1)),(10,.sc (.int .i64 x_181.2.2)),(39,.sc (.bool (decide (y_183 = (0 : Int)))))],[(1,⟨3,true,x_147.2.1.flatMap (encI .i64)⟩),(3,⟨3,true,x_147.2.2.flatMap (encI .i64)⟩)]⟩) (VC.sub (.c rfl<| .c rfl<| .c rfl<| .c rfl<| .c rfl<| .c rfl<| .c rfl<| .c rfl<| .n _) (.c rfl<| .c rfl<| .n _)) ?_
              refine AWP.join' (S := fun p_195 : Int × Int => ⟨[(0,.rd β1 a0.length (a0.flatMap encR38)),(4,.own 1 1 0 x_147.2.1.length),(5,.own 3 1 0 x_147.2.2.length),(7,.sc (.int .i64 x_147.1)),(8,.sc (.int .i64 p_195.1)),(9,.sc (.int .i64 p_195.2)),(10,.sc (.int .i64 x_181.2.2))],[(1,⟨3,true,x_147.2.1.flatMap (encI .i64)⟩),(3,⟨3,true,x_147.2.2.flatMap (encI .i64)⟩)]⟩) h (fun p_195 h => ?_) (fun k_196 h => ?_)
              · obtain ⟨t10_197,ht10_197,h⟩ := letS h
                refine AWP.region (.cons (.move (lt1 rfl) (.tmp rfl))<| .cons (.add (lt1 rfl) (.tmp rfl) (.const _ _ _))<| .cons (.assign (lt1 rfl) (.tmp rfl))<| ARun.nil _ _ _) ?_
                exact endJ (p_195.1,p_195.2,t10_197) h (by subst ht10_197; exact VC.sub (.c rfl<| .c rfl<| .c rfl<| .c rfl<| .c rfl<| .c rfl<| .c rfl<| .n _) (.c rfl<| .c rfl<| .n _))
              · refine AWP.cond (.tmp rfl) (fun hc => ?_) (fun hc => ?_)
                · have h := iteT hc h
                  refine AWP.skip ?_
                  exact endJ (x_181.1,x_181.2.1) h (VC.sub (.c rfl<| .c rfl<| .c rfl<| .c rfl<| .c rfl<| .c rfl<| .c rfl<| .n _) (.c rfl<| .c rfl<| .n _))
                · have h := iteF hc h
                  refine AWP.seq ?_
                  obtain ⟨y_184,hy_184,h⟩ := bindS h
                  refine AWP.region (.cons (.move (lt1 rfl) (.tmp rfl))<| .cons (.move (lt1 rfl) (.tmp rfl))<| .cons (.indexRd (enc := encR38) (lt1 rfl) (.tmp rfl) (.tmp rfl) Try.underlying22 sz39 encR38_len rfl hy_184)<| .cons (.fieldR (lt1 rfl) (.tmp rfl) fld39_0 rfl)<| .cons (.loadR (v := .sc (.int .i64 y_184.Release)) (lt1 rfl) (.tmp rfl) one3 rfl)<| .cons (.move (lt1 rfl) (.tmp rfl))<| .cons (.gtr (lt1 rfl) (.tmp rfl) (.tmp rfl))<| .cons (.assign (lt1 rfl) (.tmp rfl))<| ARun.nil _ _ _) ?_
                  refine AWP.vc (s' := ⟨[(0,.rd β1 a0.length (a0.flatMap encR38)),(4,.own 1 1 0 x_147.2.1.length),(5,.own 3 1 0 x_147.2.2.length),(7,.sc (.int .i64 x_147.1)),(8,.sc (.int .i64 x_181.1)),(9,.sc (.int .i64 x_181.2.1)),(10,.sc (.int .i64 x_181.2.2)),(45,.sc (.bool (decide (x_147.1 < y_184.Release))))],[(1,⟨3,true,x_147.2.1.flatMap (encI .i64)⟩),(3,⟨3,true,x_147.2.2.flatMap (encI .i64)⟩)]⟩) (VC.sub (.c rfl<| .c rfl<| .c rfl<| .c rfl<| .c rfl<| .c rfl<| .c rfl<| .c rfl<| .n _) (.c rfl<| .c rfl<| .n _)) ?_
                  refine AWP.join' (S := fun p_193 : Int × Int => ⟨[(0,.rd β1 a0.length (a0.flatMap encR38)),(4,.own 1 1 0 x_147.2.1.length),(5,.own 3 1 0 x_147.2.2.length),(7,.sc (.int .i64 x_147.1)),(8,.sc (.int .i64 p_193.1)),(9,.sc (.int .i64 p_193.2)),(10,.sc (.int .i64 x_181.2.2))],[(1,⟨3,true,x_147.2.1.flatMap (encI .i64)⟩),(3,⟨3,true,x_147.2.2.flatMap (encI .i64)⟩)]⟩) h (fun p_193 h => ?_) (fun k_194 h => ?_)
                  · exact endJ (p_193.1,p_193.2) h (VC.sub (.c rfl<| .c rfl<| .c rfl<| .c rfl<| .c rfl<| .c rfl<| .c rfl<| .n _) (.c rfl<| .c rfl<| .n _))
                  · refine AWP.cond (.tmp rfl) (fun hc => ?_) (fun hc => ?_)
                    · have h := iteT hc h
                      refine AWP.seq ?_
                      obtain ⟨y_185,hy_185,h⟩ := bindS h
                      refine AWP.region (.cons (.move (lt1 rfl) (.tmp rfl))<| .cons (.lss (lt1 rfl) (.tmp rfl) (.const _ _ _))<| .cons (.move (lt1 rfl) (.tmp rfl))<| .guard (j := 2) (dj := 55) rfl (lt1 rfl) rfl (lt1 rfl) (fun hg => .move (lt1 rfl) (.tmp rfl))<| .guard (j := 2) (dj := 55) rfl (lt1 rfl) rfl (lt1 rfl) (fun hg => .move (lt1 rfl) (.tmp rfl))<| .guard (j := 2) (dj := 55) rfl (lt1 rfl) rfl (lt1 rfl) (fun hg => .indexRd (enc := encR38) (lt1 rfl) (.gd hg (.tmp rfl)) (.gd hg (.tmp rfl)) Try.underlying22 sz39 encR38_len rfl (gdB hy_185 hg))<| .guard (j := 2) (dj := 55) rfl (lt1 rfl) rfl (lt1 rfl) (fun hg => .fieldR (lt1 rfl) (.gd hg (.tmp rfl)) fld39_0 rfl)<| .guard (j := 2) (dj := 55) rfl (lt1 rfl) rfl (lt1 rfl) (fun hg => .loadR (v := .sc (.int .i64 y_185.Release)) (lt1 rfl) (.gd hg (.tmp rfl)) one3 rfl)<| .guard (j := 2) (dj := 55) rfl (lt1 rfl) rfl (lt1 rfl) (fun hg => .move (lt1 rfl) (.tmp rfl))<| .guard (j := 2) (dj := 55) rfl (lt1 rfl) rfl (lt1 rfl) (fun hg => .lss (lt1 rfl) (.gd hg (.tmp rfl)) (.gd hg (.tmp rfl)))<| .cons (.pickOr (lt1 rfl) (.tmp rfl) (.const _ _ _) (.tmp rfl))<| ARun.nil _ _ _) ?_
                      refine AWP.vc (s' := ⟨[(0,.rd β1 a0.length (a0.flatMap encR38)),(4,.own 1 1 0 x_147.2.1.length),(5,.own 3 1 0 x_147.2.2.length),(7,.sc (.int .i64 x_147.1)),(8,.sc (.int .i64 x_181.1)),(9,.sc (.int .i64 x_181.2.1)),(10,.sc (.int .i64 x_181.2.2)),(63,.sc (.bool ((decide (x_181.2.1 < (0 : Int))) || (decide (y_185.Release < x_181.2.1)))))],[(1,⟨3,true,x_147.2.1.flatMap (encI .i64)⟩),(3,⟨3,true,x_147.2.2.flatMap (encI .i64)⟩)]⟩) (VC.sub (.c rfl<| .c rfl<| .c rfl<| .c rfl<| .c rfl<| .c rfl<| .c rfl<| .c rfl<| .n _) (.c rfl<| .c rfl<| .n _)) ?_
                      refine AWP.join' (S := fun p_187 : Int => ⟨[(0,.rd β1 a0.length (a0.flatMap encR38)),(4,.own 1 1 0 x_147.2.1.length),(5,.own 3 1 0 x_147.2.2.length),(7,.sc (.int .i64 x_147.1)),(8,.sc (.int .i64 x_181.1)),(9,.sc (.int .i64 p_187)),(10,.sc (.int .i64 x_181.2.2))],[(1,⟨3,true,x_147.2.1.flatMap (encI .i64)⟩),(3,⟨3,true,x_147.2.2.flatMap (encI .i64)⟩)]⟩) h (fun p_187 h => ?_) (fun k_188 h => ?_)
                      · exact endJ (x_181.1,p_187) h (VC.sub (.c rfl<| .c rfl<| .c rfl<| .c rfl<| .c rfl<| .c rfl<| .c rfl<| .n _) (.c rfl<| .c rfl<| .n _))
                      · refine AWP.cond (.tmp rfl) (fun hc => ?_) (fun hc => ?_)
                        · have h := iteT hc h
                          obtain ⟨y_186,hy_186,h⟩ := bindS h
                          refine AWP.region (.cons (.move (lt1 rfl) (.tmp rfl))<| .cons (.move (lt1 rfl) (.tmp rfl))<| .cons (.indexRd (enc := encR38) (lt1 rfl) (.tmp rfl) (.tmp rfl) Try.underlying22 sz39 encR38_len rfl hy_186)<| .cons (.fieldR (lt1 rfl) (.tmp rfl) fld39_0 rfl)<| .cons (.loadR (v := .sc (.int .i64 y_186.Release)) (lt1 rfl) (.tmp rfl) one3 rfl)<| .cons (.assign (lt1 rfl) (.tmp rfl))<| ARun.nil _ _ _) ?_
                          exact endJ y_186.Release h (VC.sub (.c rfl<| .c rfl<| .c rfl<| .c rfl<| .c rfl<| .c rfl<| .c rfl<| .n _) (.c rfl<| .c rfl<| .n _))
                        · have h := iteF hc h
                          refine AWP.skip ?_
                          exact endJ x_181.2.1 h (VC.sub (.c rfl<| .c rfl<| .c rfl<| .c rfl<| .c rfl<| .c rfl<| .c rfl<| .n _) (.c rfl<| .c rfl<| .n _))
                    · have h := iteF hc h
                      refine AWP.seq ?_
                      obtain ⟨y_189,hy_189,h⟩ := bindS h
                      obtain ⟨y_190,hy_190,h⟩ := bindS h
                      refine AWP.draw (s' := ⟨[(0,.rd β1 a0.length (a0.flatMap encR38)),(4,.own 1 1 0 x_147.2.1.length),(5,.own 3 1 0 x_147.2.2.length),(7,.sc (.int .i64 x_147.1)),(8,.sc (.int .i64 x_181.1)),(9,.sc (.int .i64 x_181.2.1)),(10,.sc (.int .i64 x_181.2.2)),(69,.sc (.bool ((decide (x_181.1 < (0 : Int))) || (decide (y_189 < y_190)))))],[(1,⟨3,true,x_147.2.1.flatMap (encI .i64)⟩),(3,⟨3,true,x_147.2.2.flatMap (encI .i64)⟩)]⟩) mixed [⟨0,.rd β1 a0.length (a0.flatMap encR38),none,[]⟩,⟨4,.own 1 1 0 x_147.2.1.length,none,[]⟩,⟨5,.own 3 1 0 x_147.2.2.length,none,[]⟩,⟨7,.sc (.int .i64 x_147.1),none,[]⟩,⟨8,.sc (.int .i64 x_181.1),none,[]⟩,⟨9,.sc (.int .i64 x_181.2.1),none,[]⟩,⟨10,.sc (.int .i64 x_181.2.2),none,[]⟩,⟨45,.sc (.bool (decide (x_147.1 < y_184.Release))),none,[]⟩,⟨70,.sc (.int .i64 x_181.1),some 0,[]⟩,⟨71,.sc (.bool (decide (x_181.1 < (0 : Int)))),some 1,[]⟩,⟨72,.sc (.bool (decide (x_181.1 < (0 : Int)))),some 2,[]⟩,⟨73,.gd (!(decide (x_181.1 < (0 : Int)))) (.own 1 1 0 x_147.2.1.length),some 3,[]⟩,⟨74,.gd (!(decide (x_181.1 < (0 : Int)))) (.sc (.int .i64 x_181.2.2)),some 4,[]⟩,⟨75,.gd (!(decide (x_181.1 < (0 : Int)))) (.ptr 1 (0 + (x_181.2.2).toNat * 1)),some 5,[]⟩,⟨76,.gd (!(decide (x_181.1 < (0 : Int)))) (.sc (.int .i64 y_189)),some 6,[]⟩,⟨77,.gd (!(decide (x_181.1 < (0 : Int)))) (.own 1 1 0 x_147.2.1.length),some 7,[]⟩,⟨78,.gd (!(decide (x_181.1 < (0 : Int)))) (.sc (.int .i64 x_181.1)),some 8,[]⟩,⟨79,.gd (!(decide (x_181.1 < (0 : Int)))) (.ptr 1 (0 + (x_181.1).toNat * 1)),some 9,[]⟩,⟨80,.gd (!(decide (x_181.1 < (0 : Int)))) (.sc (.int .i64 y_190)),some 10,[]⟩,⟨81,.gd (!(decide (x_181.1 < (0 : Int)))) (.sc (.bool (decide (y_189 < y_190)))),some 11,[]⟩,⟨82,.sc (.bool ((decide (x_181.1 < (0 : Int))) || (decide (y_189 < y_190)))),some 12,[]⟩,⟨69,.sc (.bool ((decide (x_181.1 < (0 : Int))) || (decide (y_189 < y_190)))),some 13,[]⟩] [⟨[4],0,0,some (70,.sc (.int .i64 x_181.1)),[]⟩,⟨[8],0,0,some (71,.sc (.bool (decide (x_181.1 < (0 : Int))))),[]⟩,⟨[9],0,0,some (72,.sc (.bool (decide (x_181.1 < (0 : Int))))),[]⟩,⟨[10,1],0,0,some (73,.gd (!(decide (x_181.1 < (0 : Int)))) (.own 1 1 0 x_147.2.1.length)),[]⟩,⟨[10,6],0,0,some (74,.gd (!(decide (x_181.1 < (0 : Int)))) (.sc (.int .i64 x_181.2.2))),[]⟩,⟨[10,11,12],0,0,some (75,.gd (!(decide (x_181.1 < (0 : Int)))) (.ptr 1 (0 + (x_181.2.2).toNat * 1))),[]⟩,⟨[10,13],0,0,some (76,.gd (!(decide (x_181.1 < (0 : Int)))) (.sc (.int .i64 y_189))),[]⟩,⟨[10,1],0,0,some (77,.gd (!(decide (x_181.1 < (0 : Int)))) (.own 1 1 0 x_147.2.1.length)),[]⟩,⟨[10,4],0,0,some (78,.gd (!(decide (x_181.1 < (0 : Int)))) (.sc (.int .i64 x_181.1))),[]⟩,⟨[10,15,16],0,0,some (79,.gd (!(decide (x_181.1 < (0 : Int)))) (.ptr 1 (0 + (x_181.1).toNat * 1))),[]⟩,⟨[10,17],0,0,some (80,.gd (!(decide (x_181.1 < (0 : Int)))) (.sc (.int .i64 y_190))),[]⟩,⟨[10,14,18],0,0,some (81,.gd (!(decide (x_181.1 < (0 : Int)))) (.sc (.bool (decide (y_189 < y_190))))),[]⟩,⟨[10,19],0,0,some (82,.sc (.bool ((decide (x_181.1 < (0 : Int))) || (decide (y_189 < y_190))))),[]⟩,⟨[20],0,0,some (69,.sc (.bool ((decide (x_181.1 < (0 : Int))) || (decide (y_189 < y_190))))),[]⟩] [] [[(1,⟨3,true,x_147.2.1.flatMap (encI .i64)⟩),(3,⟨3,true,x_147.2.2.flatMap (encI .i64)⟩)]] [[],[0],[0,1],[0,1,2],[0,1,2],[0,1,2,3,4],[0,1,2,3,4,5],[0,1,2],[0,1,2],[0,1,2,7,8],[0,1,2,7,8,9],[0,1,2,3,4,5,6,7,8,9,10],[0,1,2,3,4,5,6,7,8,9,10,11],[0,1,2,3,4,5,6,7,8,9,10,11,12]] (by kernel_rfl) (by kernel_rfl) (BornL.ok (.o<| .o<| .o<| .o<| .o<| .o<| .o<| .o<| .b rfl rfl<| .b rfl rfl<| .b rfl rfl<| .b rfl rfl<| .b rfl rfl<| .b rfl rfl<| .b rfl rfl<| .b rfl rfl<| .b rfl rfl<| .b rfl rfl<| .b rfl rfl<| .b rfl rfl<| .b rfl rfl<| .b rfl rfl<| .n)) (BaseL.ok (.o rfl<| .o rfl<| .o rfl<| .o rfl<| .o rfl<| .o rfl<| .o rfl<| .o rfl<| .b<| .b<| .b<| .b<| .b<| .b<| .b<| .b<| .b<| .b<| .b<| .b<| .b<| .b<| .n)) rfl (by decide) (allLt rfl) (.pure rfl (fun H => .put (fun E hE => .move (lt1 rfl) (.tmp (hE.at (k := 0) rfl))))<| .pure rfl (fun H => .put (fun E hE => .lss (lt1 rfl) (.tmp (hE.at (k := 0) rfl)) (.const _ _ _)))<| .pure rfl (fun H => .put (fun E hE => .move (lt1 rfl) (.tmp (hE.at (k := 0) rfl))))<| .read rfl (.c (.gput (b := (decide (x_181.1 < (0 : Int)))) (want := false) (j := 2) (dj := 72) rfl (lt1 rfl) (lt1 rfl) (fun E hE => hE.at (k := 0) rfl) (fun hg E hE => .move (lt1 rfl) (.tmp (hE.at (k := 1) rfl)))) .n)<| .pure rfl (fun H => .gput (b := (decide (x_181.1 < (0 : Int)))) (want := false) (j := 2) (dj := 72) rfl (lt1 rfl) (lt1 rfl) (fun E hE => hE.at (k := 0) rfl) (fun hg E hE => .move (lt1 rfl) (.tmp (hE.at (k := 1) rfl))))<| .read rfl (.c (.gput (b := (decide (x_181.1 < (0 : Int)))) (want := false) (j := 2) (dj := 72) rfl (lt1 rfl) (lt1 rfl) (fun E hE => hE.at (k := 0) rfl) (fun hg E hE => .idxOwn (lt1 rfl) (.gd hg (.tmp (hE.at (k := 1) rfl))) (.gd hg (.tmp (hE.at (k := 2) rfl))) Try.underlying26 sz3 rfl (gdB hy_189 hg))) .n)<| .read rfl (.c (.gput (b := (decide (x_181.1 < (0 : Int)))) (want := false) (j := 2) (dj := 72) rfl (lt1 rfl) (lt1 rfl) (fun E hE => hE.at (k := 0) rfl) (fun hg E hE => .loadP (lt1 rfl) (.gd hg (.tmp (hE.at (k := 1) rfl))) one3 rfl (cell_at1 (encI_len .i64) (gdB hy_189 hg)) rfl)) .n)<| .read rfl (.c (.gput (b := (decide (x_181.1 < (0 : Int)))) (want := false) (j := 2) (dj := 72) rfl (lt1 rfl) (lt1 rfl) (fun E hE => hE.at (k := 0) rfl) (fun hg E hE => .move (lt1 rfl) (.tmp (hE.at (k := 1) rfl)))) .n)<| .pure rfl (fun H => .gput (b := (decide (x_181.1 < (0 : Int)))) (want := false) (j := 2) (dj := 72) rfl (lt1 rfl) (lt1 rfl) (fun E hE => hE.at (k := 0) rfl) (fun hg E hE => .move (lt1 rfl) (.tmp (hE.at (k := 1) rfl))))<| .read rfl (.c (.gput (b := (decide (x_181.1 < (0 : Int)))) (want := false) (j := 2) (dj := 72) rfl (lt1 rfl) (lt1 rfl) (fun E hE => hE.at (k := 0) rfl) (fun hg E hE => .idxOwn (lt1 rfl) (.gd hg (.tmp (hE.at (k := 1) rfl))) (.gd hg (.tmp (hE.at (k := 2) rfl))) Try.underlying26 sz3 rfl (gdB hy_190 hg))) .n)<| .read rfl (.c (.gput (b := (decide (x_181.1 < (0 : Int)))) (want := false) (j := 2) (dj := 72) rfl (lt1 rfl) (lt1 rfl) (fun E hE => hE.at (k := 0) rfl) (fun hg E hE => .loadP (lt1 rfl) (.gd hg (.tmp (hE.at (k := 1) rfl))) one3 rfl (cell_at1 (encI_len .i64) (gdB hy_190 hg)) rfl)) .n)<| .pure rfl (fun H => .gput (b := (decide (x_181.1 < (0 : Int)))) (want := false) (j := 2) (dj := 72) rfl (lt1 rfl) (lt1 rfl) (fun E hE => hE.at (k := 0) rfl) (fun hg E hE => .lss (lt1 rfl) (.gd hg (.tmp (hE.at (k := 1) rfl))) (.gd hg (.tmp (hE.at (k := 2) rfl)))))<| .pure rfl (fun H => .put (fun E hE => .pickOr (lt1 rfl) (.tmp (hE.at (k := 0) rfl)) (.const _ _ _) (.tmp (hE.at (k := 1) rfl))))<| .pure rfl (fun H => .put (fun E hE => .assign (lt1 rfl) (.tmp (hE.at (k := 0) rfl))))<| .nil _) (fun E hE => .c (DInv.at hE (k := 0) rfl rfl rfl)<| .c (DInv.at hE (k := 1) rfl rfl rfl)<| .c (DInv.at hE (k := 2) rfl rfl rfl)<| .c (DInv.at hE (k := 3) rfl rfl rfl)<| .c (DInv.at hE (k := 4) rfl rfl rfl)<| .c (DInv.at hE (k := 5) rfl rfl rfl)<| .c (DInv.at hE (k := 6) rfl rfl rfl)<| .c (DInv.at hE (k := 21) rfl rfl rfl)<| .n _) rfl ?_
                      refine AWP.vc (s' := ⟨[(0,.rd β1 a0.length (a0.flatMap encR38)),(4,.own 1 1 0 x_147.2.1.length),(5,.own 3 1 0 x_147.2.2.length),(7,.sc (.int .i64 x_147.1)),(8,.sc (.int .i64 x_181.1)),(9,.sc (.int .i64 x_181.2.1)),(10,.sc (.int .i64 x_181.2.2)),(69,.sc (.bool ((decide (x_181.1 < (0 : Int))) || (decide (y_189 < y_190)))))],[(1,⟨3,true,x_147.2.1.flatMap (encI .i64)⟩),(3,⟨3,true,x_147.2.2.flatMap (encI .i64)⟩)]⟩) (VC.sub (.c rfl<| .c rfl<| .c rfl<| .c rfl<| .c rfl<| .c rfl<| .c rfl<| .c rfl<| .n _) (.c rfl<| .c rfl<| .n _)) ?_
                      refine AWP.join' (S := fun p_191 : Int => ⟨[(0,.rd β1 a0.length (a0.flatMap encR38)),(4,.own 1 1 0 x_147.2.1.length),(5,.own 3 1 0 x_147.2.2.length),(7,.sc (.int .i64 x_147.1)),(8,.sc (.int .i64 p_191)),(9,.sc (.int .i64 x_181.2.1)),(10,.sc (.int .i64 x_181.2.2))],[(1,⟨3,true,x_147.2.1.flatMap (encI .i64)⟩),(3,⟨3,true,x_147.2.2.flatMap (encI .i64)⟩)]⟩) h (fun p_191 h => ?_) (fun k_192 h => ?_)
                      · exact endJ (p_191,x_181.2.1) h (VC.sub (.c rfl<| .c rfl<| .c rfl<| .c rfl<| .c rfl<| .c rfl<| .c rfl<| .n _) (.c rfl<| .c rfl<| .n _))
                      · refine AWP.cond (.tmp rfl) (fun hc => ?_) (fun hc => ?_)
                        · have h := iteT hc h
                          refine AWP.region (.cons (.move (lt1 rfl) (.tmp rfl))<| .cons (.assign (lt1 rfl) (.tmp rfl))<| ARun.nil _ _ _) ?_
                          exact endJ x_181.2.2 h (VC.sub (.c rfl<| .c rfl<| .c rfl<| .c rfl<| .c rfl<| .c rfl<| .c rfl<| .n _) (.c rfl<| .c rfl<| .n _))
                        · have h := iteF hc h
                          refine AWP.skip ?_
                          exact endJ x_181.1 h (VC.sub (.c rfl<| .c rfl<| .c rfl<| .c rfl<| .c rfl<| .c rfl<| .c rfl<| .n _) (.c rfl<| .c rfl<| .n _))
            · have h := iteF hc h
              refine AWP.exit ?_
              exact endJ (x_181.1,x_181.2.1) h (VC.sub (.c rfl<| .c rfl<| .c rfl<| .c rfl<| .c rfl<| .c rfl<| .n _) (.c rfl<| .c rfl<| .n _))
        · have h := iteF hc h
          refine AWP.exit ?_
          exact endJ x_147.2.2 h (VC.sub (.c rfl<| .n _) (.c rfl<| .n _))
    · refine AWP.vc (VC.nilOwn (d := 4) (t := 1) (sz := 1) (E := 3) rfl (nm rfl)) ?_
      refine AWP.vc (s' := ⟨[(0,.rd β1 a0.length (a0.flatMap encR38)),(4,.own 1 1 0 ([] : List Int).length),(5,.sc (.slice none 0 0)),(6,.sc (.int .i64 (0 : Int)))],[(1,⟨3,true,([] : List Int).flatMap (encI .i64)⟩)]⟩) (VC.sub (.c rfl<| .c rfl<| .c rfl<| .c rfl<| .n _) (.c rfl<| .n _)) ?_
      refine AWP.loopM (S := fun x_10 : Int × (List Int) => ⟨[(0,.rd β1 a0.length (a0.flatMap encR38)),(4,.own 1 1 0 x_10.2.length),(5,.sc (.slice none 0 0)),(6,.sc (.int .i64 x_10.1))],[(1,⟨3,true,x_10.2.flatMap (encI .i64)⟩)]⟩) (x := ((0 : Int),([] : List Int))) (fun nx_11 x_10 h => ?_) h
      unfold m33_L1 at h
      refine AWP.seq ?_
      refine AWP.seq ?_
      refine AWP.region (.cons (.move (lt1 rfl) (.tmp rfl))<| .cons (.move (lt1 rfl) (.tmp rfl))<| .cons (.lenRd (lt1 rfl) (.tmp rfl) Try.underlying22)<| .cons (.lss (lt1 rfl) (.tmp rfl) (.tmp rfl))<| ARun.nil _ _ _) ?_
      refine AWP.vc (s' := ⟨[(0,.rd β1 a0.length (a0.flatMap encR38)),(4,.own 1 1 0 x_10.2.length),(5,.sc (.slice none 0 0)),(6,.sc (.int .i64 x_10.1)),(17,.sc (.bool (decide (x_10.1 < (a0.length : Int)))))],[(1,⟨3,true,x_10.2.flatMap (encI .i64)⟩)]⟩) (VC.sub (.c rfl<| .c rfl<| .c rfl<| .c rfl<| .c rfl<| .n _) (.c rfl<| .n _)) ?_
      refine AWP.cond (.tmp rfl) (fun hc => ?_) (fun hc => ?_)
      · have h := iteT hc h
        refine AWP.skip ?_
        refine AWP.seq ?_
        refine AWP.block ?_
        obtain ⟨y_12,hy_12,h⟩ := bindS h
        obtain ⟨l1_13,hl1_13,h⟩ := bindS h
        refine AWP.region (.cons (.move (lt1 rfl) (.tmp rfl))<| .cons (.move (lt1 rfl) (.tmp rfl))<| .cons (.move (lt1 rfl) (.tmp rfl))<| .cons (.indexRd (enc := encR38) (lt1 rfl) (.tmp rfl) (.tmp rfl) Try.underlying22 sz39 encR38_len rfl hy_12)<| .cons (.fieldR (lt1 rfl) (.tmp rfl) fld39_1 rfl)<| .cons (.loadR (v := .sc (.int .i64 y_12.Length)) (lt1 rfl) (.tmp rfl) one3 rfl)<| .cons (.buildSlice (t := 2) (out := ([y_12.Length] : List Int).flatMap (encI .i64)) (lt1 rfl) (nm rfl) (.cons (.tmp rfl) (by first | exact ⟨rfl,rfl⟩ | rfl) (.nil)) Try.underlying26 zero3 el3 (by decide) (by decide) rfl (still_all (encI_still .i64) _))<| .cons (.app (enc := (encI .i64)) (lt1 rfl) (nm rfl) (.tmp rfl) (Src.own (.tmp rfl) rfl (lendAll (encI_len .i64) _) (flatMap_length (encI_len .i64) _) (one_all (encI_one .i64) _) (.inl rfl)) Try.underlying26 ⟨_,Try.underlying26,by intro k hk; cases hk⟩ el3 rfl (encI_len .i64) rfl rfl (by decide) hl1_13)<| .cons (.assign (lt1 rfl) (.tmp rfl))<| ARun.nil _ _ _) ?_
        refine AWP.vc (s' := ⟨[(0,.rd β1 a0.length (a0.flatMap encR38)),(4,.own 1 1 0 l1_13.length),(5,.sc (.slice none 0 0)),(6,.sc (.int .i64 x_10.1))],[(1,⟨3,true,l1_13.flatMap (encI .i64)⟩)]⟩) (VC.sub (.c rfl<| .c rfl<| .c rfl<| .c rfl<| .n _) (.c rfl<| .n _)) ?_
        obtain ⟨t6_14,ht6_14,h⟩ := letS h
        refine AWP.region (.cons (.move (lt1 rfl) (.tmp rfl))<| .cons (.add (lt1 rfl) (.tmp rfl) (.const _ _ _))<| .cons (.assign (lt1 rfl) (.tmp rfl))<| ARun.nil _ _ _) ?_
        exact endJ (t6_14,l1_13) h (by subst ht6_14; exact VC.sub (.c rfl<| .c rfl<| .c rfl<| .c rfl<| .n _) (.c rfl<| .n _))
      · have h := iteF hc h
        refine AWP.exit ?_
        exact endJ x_10.2 h (VC.sub (.c rfl<| .c rfl<| .c rfl<| .n _) (.c rfl<| .n _))
theorem c87 (n : Nat) (a0 : Int) {r : Int} (h : m87 n a0 = some r) : Spec Try.prog 87 [] [.sc (.int .u64 a0)] [] (.sc (.int .i64 r)) [] := by
  refine Spec.of (fn := Try.f87) Try.func87 Try.ntmps87 rfl rfl (le1 rfl) (fun w0 Zs Zb T0 ι0 => ?_)
  unfold m87 at h
  refine AWP.seq ?_
  refine AWP.region (.cons (.assign (lt1 rfl) (.const _ _ _))<| ARun.nil _ _ _) ?_
  refine AWP.vc (s' := ⟨[(0,.sc (.int .u64 a0)),(2,.sc (.int .i64 (0 : Int)))],[]⟩) (VC.sub (.c rfl<| .c rfl<| .n _) (.n _)) ?_
  refine AWP.seq ?_
  refine AWP.seq ?_
  refine AWP.region (.cons (.move (lt1 rfl) (.tmp rfl))<| .cons (.geq (lt1 rfl) (.tmp rfl) (.const _ _ _))<| ARun.nil _ _ _) ?_
  refine AWP.vc (s' := ⟨[(0,.sc (.int .u64 a0)),(2,.sc (.int .i64 (0 : Int))),(4,.sc (.bool (decide ((4294967296 : Int) ≤ a0))))],[]⟩) (VC.sub (.c rfl<| .c rfl<| .c rfl<| .n _) (.n _)) ?_
  refine AWP.join' (S := fun p_1 : Int × Int => ⟨[(0,.sc (.int .u64 p_1.1)),(2,.sc (.int .i64 p_1.2))],[]⟩) h (fun p_1 h => ?_) (fun k_2 h => ?_)
  · refine AWP.seq ?_
    refine AWP.seq ?_
    refine AWP.region (.cons (.move (lt1 rfl) (.tmp rfl))<| .cons (.geq (lt1 rfl) (.tmp rfl) (.const _ _ _))<| ARun.nil _ _ _) ?_
    refine AWP.vc (s' := ⟨[(0,.sc (.int .u64 p_1.1)),(2,.sc (.int .i64 p_1.2)),(8,.sc (.bool (decide ((65536 : Int) ≤ p_1.1))))],[]⟩) (VC.sub (.c rfl<| .c rfl<| .c rfl<| .n _) (.n _)) ?_
    refine AWP.join' (S := fun p_4 : Int × Int => ⟨[(0,.sc (.int .u64 p_4.1)),(2,.sc (.int .i64 p_4.2))],[]⟩) h (fun p_4 h => ?_) (fun k_5 h => ?_)
    · refine AWP.seq ?_
      refine AWP.seq ?_
      refine AWP.region (.cons (.move (lt1 rfl) (.tmp rfl))<| .cons (.geq (lt1 rfl) (.tmp rfl) (.const _ _ _))<| ARun.nil _ _ _) ?_
      refine AWP.vc (s' := ⟨[(0,.sc (.int .u64 p_4.1)),(2,.sc (.int .i64 p_4.2)),(14,.sc (.bool (decide ((256 : Int) ≤ p_4.1))))],[]⟩) (VC.sub (.c rfl<| .c rfl<| .c rfl<| .n _) (.n _)) ?_
      refine AWP.join' (S := fun p_7 : Int × Int => ⟨[(0,.sc (.int .u64 p_7.1)),(2,.sc (.int .i64 p_7.2))],[]⟩) h (fun p_7 h => ?_) (fun k_8 h => ?_)
      · refine AWP.seq ?_
        obtain ⟨c_9,hc_9,h⟩ := bindS h
        obtain ⟨t2_10,ht2_10,h⟩ := letS h
        refine AWP.region (.cons (.move (lt1 rfl) (.tmp rfl))<| .cons (.move (lt1 rfl) (.tmp rfl))<| .cons (.conv (lt1 rfl) (.tmp rfl) Try.underlying119 Try.underlying5)<| .cons (.indexS (lt1 rfl) (.const _ _ _) (.tmp rfl) Try.underlying9 hc_9)<| .cons (.conv (lt1 rfl) (.tmp rfl) Try.underlying5 Try.underlying3)<| .cons (.add (lt1 rfl) (.tmp rfl) (.tmp rfl))<| .cons (.assign (lt1 rfl) (.tmp rfl))<| ARun.nil _ _ _) ?_
        refine AWP.ret ?_
        obtain rfl := Option.some.inj h
        refine retJ (Res.vc (s' := ⟨[(2,.sc (.int .i64 t2_10))],[]⟩) (by subst ht2_10; exact VC.sub (.c rfl<| .n _) (.n _)) ?_)
        refine Res.drop (H := []) rfl ?_
        exact Res.of rfl (.cons (.tmp rfl) (.nil)) rfl rfl
      · refine AWP.cond (.tmp rfl) (fun hc => ?_) (fun hc => ?_)
        · have h := iteT hc h
          refine AWP.seq ?_
          refine AWP.region (.cons (.move (lt1 rfl) (.tmp rfl))<| .cons (.shr (lt1 rfl) (.tmp rfl) (.const _ _ _) (by decide))<| .cons (.assign (lt1 rfl) (.tmp rfl))<| ARun.nil _ _ _) ?_
          refine AWP.vc (s' := ⟨[(0,.sc (.int .u64 (shrI .u64 p_4.1 (8 : Int)))),(2,.sc (.int .i64 p_4.2))],[]⟩) (VC.sub (.c rfl<| .c rfl<| .n _) (.n _)) ?_
          obtain ⟨t2_6,ht2_6,h⟩ := letS h
          refine AWP.region (.cons (.move (lt1 rfl) (.tmp rfl))<| .cons (.add (lt1 rfl) (.tmp rfl) (.const _ _ _))<| .cons (.assign (lt1 rfl) (.tmp rfl))<| ARun.nil _ _ _) ?_
          exact endJ ((shrI .u64 p_4.1 (8 : Int)),t2_6) h (by subst ht2_6; exact VC.sub (.c rfl<| .c rfl<| .n _) (.n _))
        · have h := iteF hc h
          refine AWP.skip ?_
          exact endJ (p_4.1,p_4.2) h (VC.sub (.c rfl<| .c rfl<| .n _) (.n _))
    · refine AWP.cond (.tmp rfl) (fun hc => ?_) (fun hc => ?_)
      · have h := iteT hc h
        refine AWP.seq ?_
        refine AWP.region (.cons (.move (lt1 rfl) (.tmp rfl))<| .cons (.shr (lt1 rfl) (.tmp rfl) (.const _ _ _) (by decide))<| .cons (.assign (lt1 rfl) (.tmp rfl))<| ARun.nil _ _ _) ?_
        refine AWP.vc (s' := ⟨[(0,.sc (.int .u64 (shrI .u64 p_1.1 (16 : Int)))),(2,.sc (.int .i64 p_1.2))],[]⟩) (VC.sub (.c rfl<| .c rfl<| .n _) (.n _)) ?_
        obtain ⟨t2_3,ht2_3,h⟩ := letS h
        refine AWP.region (.cons (.move (lt1 rfl) (.tmp rfl))<| .cons (.add (lt1 rfl) (.tmp rfl) (.const _ _ _))<| .cons (.assign (lt1 rfl) (.tmp rfl))<| ARun.nil _ _ _) ?_
        exact endJ ((shrI .u64 p_1.1 (16 : Int)),t2_3) h (by subst ht2_3; exact VC.sub (.c rfl<| .c rfl<| .n _) (.n _))
      · have h := iteF hc h
        refine AWP.skip ?_
        exact endJ (p_1.1,p_1.2) h (VC.sub (.c rfl<| .c rfl<| .n _) (.n _))
  · refine AWP.cond (.tmp rfl) (fun hc => ?_) (fun hc => ?_)
    · have h := iteT hc h
      refine AWP.seq ?_
      refine AWP.region (.cons (.move (lt1 rfl) (.tmp rfl))<| .cons (.shr (lt1 rfl) (.tmp rfl) (.const _ _ _) (by decide))<| .cons (.assign (lt1 rfl) (.tmp rfl))<| ARun.nil _ _ _) ?_
      refine AWP.vc (s' := ⟨[(0,.sc (.int .u64 (shrI .u64 a0 (32 : Int))))],[]⟩) (VC.sub (.c rfl<| .n _) (.n _)) ?_
      refine AWP.region (.cons (.assign (lt1 rfl) (.const _ _ _))<| ARun.nil _ _ _) ?_
      exact endJ ((shrI .u64 a0 (32 : Int)),(32 : Int)) h (VC.sub (.c rfl<| .c rfl<| .n _) (.n _))
    · have h := iteF hc h
      refine AWP.skip ?_
      exact endJ (a0,(0 : Int)) h (VC.sub (.c rfl<| .c rfl<| .n _) (.n _))
theorem c73 (n : Nat) (a0 : Int) {r : Int} (h : m73 n a0 = some r) : Spec Try.prog 73 [] [.sc (.int .u64 a0)] [] (.sc (.int .i64 r)) [] := by
  refine Spec.of (fn := Try.f73) Try.func73 Try.ntmps73 rfl rfl (le1 rfl) (fun w0 Zs Zb T0 ι0 => ?_)
  unfold m73 at h
  refine AWP.seq ?_
  refine AWP.region (.cons (.assign (lt1 rfl) (.const _ _ _))<| ARun.nil _ _ _) ?_
  refine AWP.vc (s' := ⟨[(0,.sc (.int .u64 a0))],[]⟩) (VC.sub (.c rfl<| .n _) (.n _)) ?_
  refine AWP.seq ?_
  refine AWP.cond (.const _ _ _) (fun hc => by cases hc) (fun _ => ?_)
  refine AWP.skip ?_
  refine AWP.seq ?_
  obtain ⟨y_1,hy_1,h⟩ := bindS h
  refine AWP.region (.cons (.move (lt1 rfl) (.tmp rfl))<| .cons (.call0 (bw := false) (lt1 rfl) (c87 n a0 hy_1) (.cons (.tmp rfl) (.ren rfl) (.nil)) rfl)<| .cons (.assign (lt1 rfl) (.tmp rfl))<| ARun.nil _ _ _) ?_
  refine AWP.ret ?_
  obtain rfl := Option.some.inj h
  refine retJ (Res.vc (s' := ⟨[(2,.sc (.int .i64 y_1))],[]⟩) (VC.sub (.c rfl<| .n _) (.n _)) ?_)
  refine Res.drop (H := []) rfl ?_
  exact Res.of rfl (.cons (.tmp rfl) (.nil)) rfl rfl
theorem c83 (n : Nat) (a0 : Int) (a1 : Int) {r : Bool} (h : m83 n a0 a1 = some r) : Spec Try.prog 83 [] [.sc (.int .i64 a0),.sc (.int .i64 a1)] [] (.sc (.bool r)) [] := by
  refine Spec.of (fn := Try.f83) Try.func83 Try.ntmps83 rfl rfl (le1 rfl) (fun w0 Zs Zb T0 ι0 => ?_)
  unfold m83 at h
  refine AWP.seq ?_
  refine AWP.region (.cons (.assign (lt1 rfl) (.const _ _ _))<| ARun.nil _ _ _) ?_
  refine AWP.vc (s' := ⟨[(0,.sc (.int .i64 a0)),(1,.sc (.int .i64 a1))],[]⟩) (VC.sub (.c rfl<| .c rfl<| .n _) (.n _)) ?_
  refine AWP.seq ?_
  obtain ⟨y_1,hy_1,h⟩ := bindS h
  obtain ⟨y_2,hy_2,h⟩ := bindS h
  refine AWP.region (.cons (.move (lt1 rfl) (.tmp rfl))<| .cons (.call0 (bw := false) (lt1 rfl) (c75 n a0 hy_1) (.cons (.tmp rfl) (.ren rfl) (.nil)) rfl)<| .cons (.move (lt1 rfl) (.tmp rfl))<| .guard (j := 2) (dj := 7) rfl (lt1 rfl) rfl (lt1 rfl) (fun hg => .move (lt1 rfl) (.tmp rfl))<| .guard (j := 2) (dj := 7) rfl (lt1 rfl) rfl (lt1 rfl) (fun hg => .call0 (bw := false) (lt1 rfl) (c75 n a1 (gdB hy_2 hg)) (.cons (.gd hg (.tmp rfl)) (.ren rfl) (.nil)) rfl)<| .guard (j := 2) (dj := 7) rfl (lt1 rfl) rfl (lt1 rfl) (fun hg => .not (lt1 rfl) (.gd hg (.tmp rfl)))<| .cons (.pickAnd (lt1 rfl) (.tmp rfl) (.tmp rfl) (.const _ _ _))<| .cons (.move (lt1 rfl) (.tmp rfl))<| .guard (j := 7) (dj := 12) rfl (lt1 rfl) rfl (lt1 rfl) (fun hg => .move (lt1 rfl) (.tmp rfl))<| .guard (j := 7) (dj := 12) rfl (lt1 rfl) rfl (lt1 rfl) (fun hg => .move (lt1 rfl) (.tmp rfl))<| .guard (j := 7) (dj := 12) rfl (lt1 rfl) rfl (lt1 rfl) (fun hg => .lss (lt1 rfl) (.gd hg (.tmp rfl)) (.gd hg (.tmp rfl)))<| .cons (.pickOr (lt1 rfl) (.tmp rfl) (.const _ _ _) (.tmp rfl))<| .cons (.assign (lt1 rfl) (.tmp rfl))<| ARun.nil _ _ _) ?_
  refine AWP.ret ?_
  obtain rfl := Option.some.inj h
  refine retJ (Res.vc (s' := ⟨[(4,.sc (.bool ((y_1 && (!y_2)) || (decide (a0 < a1)))))],[]⟩) (VC.sub (.c rfl<| .n _) (.n _)) ?_)
  refine Res.drop (H := []) rfl ?_
  exact Res.of rfl (.cons (.tmp rfl) (.nil)) rfl rfl
theorem c77 (n : Nat) (a0_b : (List Int)) (a1 : Int) (a2 : Int) {r : (List Int)} (h : m77 n a0_b a1 a2 = some r) : Spec Try.prog 77 [1] [.own 1 1 0 a0_b.length,.sc (.int .i64 a1),.sc (.int .i64 a2)] [(1,⟨3,true,a0_b.flatMap (encI .i64)⟩)] (.tup []) [(1,⟨3,true,r.flatMap (encI .i64)⟩)] := by
  refine Spec.of (fn := Try.f77) Try.func77 Try.ntmps77 rfl rfl (le1 rfl) (fun w0 Zs Zb T0 ι0 => ?_)
  unfold m77 at h
  refine AWP.seq ?_
  obtain ⟨t6_1,ht6_1,h⟩ := letS h
  refine AWP.region (.cons (.move (lt1 rfl) (.tmp rfl))<| .cons (.add (lt1 rfl) (.tmp rfl) (.const _ _ _))<| .cons (.assign (lt1 rfl) (.tmp rfl))<| ARun.nil _ _ _) ?_
  refine AWP.vc (s' := ⟨[(0,.own 1 1 0 a0_b.length),(1,.sc (.int .i64 a1)),(2,.sc (.int .i64 a2)),(6,.sc (.int .i64 t6_1))],[(1,⟨3,true,a0_b.flatMap (encI .i64)⟩)]⟩) (by subst ht6_1; exact VC.sub (.c rfl<| .c rfl<| .c rfl<| .c rfl<| .n _) (.c rfl<| .n _)) ?_
  refine AWP.joinB' (S := fun p_117 : (List Int) => ⟨[],[(1,⟨3,true,p_117.flatMap (encI .i64)⟩)]⟩) h (fun p_117 h => ?_) (fun k_118 h => ?_)
  · obtain rfl := Option.some.inj h
    refine norJ (Res.vc (s' := ⟨[],[(1,⟨3,true,p_117.flatMap (encI .i64)⟩)]⟩) (VC.sub (.n _) (.c rfl<| .n _)) ?_)
    refine Res.sub (H := [(1,⟨3,true,p_117.flatMap (encI .i64)⟩)]) (.c rfl<| .n _) ?_
    exact Res.of rfl (.nil) rfl rfl
  · refine AWP.vc (s' := ⟨[(0,.own 1 1 0 a0_b.length),(1,.sc (.int .i64 a1)),(2,.sc (.int .i64 a2)),(6,.sc (.int .i64 t6_1))],[(1,⟨3,true,a0_b.flatMap (encI .i64)⟩)]⟩) (VC.sub (.c rfl<| .c rfl<| .c rfl<| .c rfl<| .n _) (.c rfl<| .n _)) ?_
    refine AWP.loopM (S := fun x_78 : Int × (List Int) => ⟨[(0,.own 1 1 0 x_78.2.length),(1,.sc (.int .i64 a1)),(2,.sc (.int .i64 a2)),(6,.sc (.int .i64 x_78.1))],[(1,⟨3,true,x_78.2.flatMap (encI .i64)⟩)]⟩) (x := (t6_1,a0_b)) (fun nx_79 x_78 h => ?_) h
    unfold m77_L3 at h
    refine AWP.seq ?_
    refine AWP.seq ?_
    refine AWP.region (.cons (.move (lt1 rfl) (.tmp rfl))<| .cons (.move (lt1 rfl) (.tmp rfl))<| .cons (.lss (lt1 rfl) (.tmp rfl) (.tmp rfl))<| ARun.nil _ _ _) ?_
    refine AWP.vc (s' := ⟨[(0,.own 1 1 0 x_78.2.length),(1,.sc (.int .i64 a1)),(2,.sc (.int .i64 a2)),(6,.sc (.int .i64 x_78.1)),(12,.sc (.bool (decide (x_78.1 < a2))))],[(1,⟨3,true,x_78.2.flatMap (encI .i64)⟩)]⟩) (VC.sub (.c rfl<| .c rfl<| .c rfl<| .c rfl<| .c rfl<| .n _) (.c rfl<| .n _)) ?_
    refine AWP.cond (.tmp rfl) (fun hc => ?_) (fun hc => ?_)
    · have h := iteT hc h
      refine AWP.skip ?_
      refine AWP.seq ?_
      refine AWP.block ?_
      refine AWP.seq ?_
      refine AWP.region (.cons (.move (lt1 rfl) (.tmp rfl))<| .cons (.assign (lt1 rfl) (.tmp rfl))<| ARun.nil _ _ _) ?_
      refine AWP.vc (s' := ⟨[(0,.own 1 1 0 x_78.2.length),(1,.sc (.int .i64 a1)),(2,.sc (.int .i64 a2)),(6,.sc (.int .i64 x_78.1)),(7,.sc (.int .i64 x_78.1))],[(1,⟨3,true,x_78.2.flatMap (encI .i64)⟩)]⟩) (VC.sub (.c rfl<| .c rfl<| .c rfl<| .c rfl<| .c rfl<| .n _) (.c rfl<| .n _)) ?_
      refine AWP.joinB' (S := fun p_114 : (List Int) => ⟨[(0,.own 1 1 0 p_114.length),(1,.sc (.int .i64 a1)),(2,.sc (.int .i64 a2)),(6,.sc (.int .i64 x_78.1))],[(1,⟨3,true,p_114.flatMap (encI .i64)⟩)]⟩) h (fun p_114 h => ?_) (fun k_115 h => ?_)
      · obtain ⟨t6_116,ht6_116,h⟩ := letS h
        refine AWP.region (.cons (.move (lt1 rfl) (.tmp rfl))<| .cons (.add (lt1 rfl) (.tmp rfl) (.const _ _ _))<| .cons (.assign (lt1 rfl) (.tmp rfl))<| ARun.nil _ _ _) ?_
        exact endJ (t6_116,p_114) h (by subst ht6_116; exact VC.sub (.c rfl<| .c rfl<| .c rfl<| .c rfl<| .n _) (.c rfl<| .n _))
      · refine AWP.vc (s' := ⟨[(0,.own 1 1 0 x_78.2.length),(1,.sc (.int .i64 a1)),(2,.sc (.int .i64 a2)),(6,.sc (.int .i64 x_78.1)),(7,.sc (.int .i64 x_78.1))],[(1,⟨3,true,x_78.2.flatMap (encI .i64)⟩)]⟩) (VC.sub (.c rfl<| .c rfl<| .c rfl<| .c rfl<| .c rfl<| .n _) (.c rfl<| .n _)) ?_
        refine AWP.loopM (S := fun x_102 : Int × (List Int) => ⟨[(0,.own 1 1 0 x_102.2.length),(1,.sc (.int .i64 a1)),(2,.sc (.int .i64 a2)),(6,.sc (.int .i64 x_78.1)),(7,.sc (.int .i64 x_102.1))],[(1,⟨3,true,x_102.2.flatMap (encI .i64)⟩)]⟩) (x := (x_78.1,x_78.2)) (fun nx_103 x_102 h => ?_) h
        unfold m77_L4 at h
        refine AWP.seq ?_
        refine AWP.seq ?_
        obtain ⟨y_104,hy_104,h⟩ := bindS h
        obtain ⟨y_105,hy_105,h⟩ := bindS h
        obtain ⟨y_106,hy_106,h⟩ := bindS h
        refine AWP.draw (s' := ⟨[(0,.own 1 1 0 x_102.2.length),(1,.sc (.int .i64 a1)),(2,.sc (.int .i64 a2)),(6,.sc (.int .i64 x_78.1)),(7,.sc (.int .i64 x_102.1)),(30,.sc (.bool ((decide (a1 < x_102.1)) && y_106)))],[(1,⟨3,true,x_102.2.flatMap (encI .i64)⟩)]⟩) mixed [⟨0,.own 1 1 0 x_102.2.length,none,[]⟩,⟨1,.sc (.int .i64 a1),none,[]⟩,⟨2,.sc (.int .i64 a2),none,[]⟩,⟨6,.sc (.int .i64 x_78.1),none,[]⟩,⟨7,.sc (.int .i64 x_102.1),none,[]⟩,⟨16,.sc (.int .i64 x_102.1),some 0,[]⟩,⟨17,.sc (.int .i64 a1),some 1,[]⟩,⟨18,.sc (.bool (decide (a1 < x_102.1))),some 2,[]⟩,⟨19,.sc (.bool (decide (a1 < x_102.1))),some 3,[]⟩,⟨20,.gd (decide (a1 < x_102.1)) (.own 1 1 0 x_102.2.length),some 4,[]⟩,⟨21,.gd (decide (a1 < x_102.1)) (.sc (.int .i64 x_102.1)),some 5,[]⟩,⟨22,.gd (decide (a1 < x_102.1)) (.ptr 1 (0 + (x_102.1).toNat * 1)),some 6,[]⟩,⟨23,.gd (decide (a1 < x_102.1)) (.sc (.int .i64 y_104)),some 7,[]⟩,⟨24,.gd (decide (a1 < x_102.1)) (.own 1 1 0 x_102.2.length),some 8,[]⟩,⟨25,.gd (decide (a1 < x_102.1)) (.sc (.int .i64 x_102.1)),some 9,[]⟩,⟨26,.gd (decide (a1 < x_102.1)) (.sc (.int .i64 (IntKind.wrap .i64 (x_102.1 - (1 : Int))))),some 10,[]⟩,⟨27,.gd (decide (a1 < x_102.1)) (.ptr 1 (0 + ((IntKind.wrap .i64 (x_102.1 - (1 : Int)))).toNat * 1)),some 11,[]⟩,⟨28,.gd (decide (a1 < x_102.1)) (.sc (.int .i64 y_105)),some 12,[]⟩,⟨29,.gd (decide (a1 < x_102.1)) (.sc (.bool y_106)),some 13,[]⟩,⟨30,.sc (.bool ((decide (a1 < x_102.1)) && y_106)),some 14,[]⟩] [⟨[4],0,0,some (16,.sc (.int .i64 x_102.1)),[]⟩,⟨[1],0,0,some (17,.sc (.int .i64 a1)),[]⟩,⟨[5,6],0,0,some (18,.sc (.bool (decide (a1 < x_102.1)))),[]⟩,⟨[7],0,0,some (19,.sc (.bool (decide (a1 < x_102.1)))),[]⟩,⟨[8,0],0,0,some (20,.gd (decide (a1 < x_102.1)) (.own 1 1 0 x_102.2.length)),[]⟩,⟨[8,4],0,0,some (21,.gd (decide (a1 < x_102.1)) (.sc (.int .i64 x_102.1))),[]⟩,⟨[8,9,10],0,0,some (22,.gd (decide (a1 < x_102.1)) (.ptr 1 (0 + (x_102.1).toNat * 1))),[]⟩,⟨[8,11],0,0,some (23,.gd (decide (a1 < x_102.1)) (.sc (.int .i64 y_104))),[]⟩,⟨[8,0],0,0,some (24,.gd (decide (a1 < x_102.1)) (.own 1 1 0 x_102.2.length)),[]⟩,⟨[8,4],0,0,some (25,.gd (decide (a1 < x_102.1)) (.sc (.int .i64 x_102.1))),[]⟩,⟨[8,14],0,0,some (26,.gd (decide (a1 < x_102.1)) (.sc (.int .i64 (IntKind.wrap .i64 (x_102.1 - (1 : Int)))))),[]⟩,⟨[8,13,15],0,0,some (27,.gd (decide (a1 < x_102.1)) (.ptr 1 (0 + ((IntKind.wrap .i64 (x_102.1 - (1 : Int)))).toNat * 1))),[]⟩,⟨[8,16],0,0,some (28,.gd (decide (a1 < x_102.1)) (.sc (.int .i64 y_105))),[]⟩,⟨[8,12,17],0,0,some (29,.gd (decide (a1 < x_102.1)) (.sc (.bool y_106))),[]⟩,⟨[8,18],0,0,some (30,.sc (.bool ((decide (a1 < x_102.1)) && y_106))),[]⟩] [] [[(1,⟨3,true,x_102.2.flatMap (encI .i64)⟩)]] [[],[],[0,1],[0,1,2],[0,1,2,3],[0,1,2,3],[0,1,2,3,4,5],[0,1,2,3,4,5,6],[0,1,2,3],[0,1,2,3],[0,1,2,3,9],[0,1,2,3,8,9,10],[0,1,2,3,8,9,10,11],[0,1,2,3,4,5,6,7,8,9,10,11,12],[0,1,2,3,4,5,6,7,8,9,10,11,12,13]] (by kernel_rfl) (by kernel_rfl) (BornL.ok (.o<| .o<| .o<| .o<| .o<| .b rfl rfl<| .b rfl rfl<| .b rfl rfl<| .b rfl rfl<| .b rfl rfl<| .b rfl rfl<| .b rfl rfl<| .b rfl rfl<| .b rfl rfl<| .b rfl rfl<| .b rfl rfl<| .b rfl rfl<| .b rfl rfl<| .b rfl rfl<| .b rfl rfl<| .n)) (BaseL.ok (.o rfl<| .o rfl<| .o rfl<| .o rfl<| .o rfl<| .b<| .b<| .b<| .b<| .b<| .b<| .b<| .b<| .b<| .b<| .b<| .b<| .b<| .b<| .b<| .n)) rfl (by decide) (allLt rfl) (.pure rfl (fun H => .put (fun E hE => .move (lt1 rfl) (.tmp (hE.at (k := 0) rfl))))<| .pure rfl (fun H => .put (fun E hE => .move (lt1 rfl) (.tmp (hE.at (k := 0) rfl))))<| .pure rfl (fun H => .put (fun E hE => .gtr (lt1 rfl) (.tmp (hE.at (k := 0) rfl)) (.tmp (hE.at (k := 1) rfl))))<| .pure rfl (fun H => .put (fun E hE => .move (lt1 rfl) (.tmp (hE.at (k := 0) rfl))))<| .read rfl (.c (.gput (b := (decide (a1 < x_102.1))) (want := true) (j := 3) (dj := 19) rfl (lt1 rfl) (lt1 rfl) (fun E hE => hE.at (k := 0) rfl) (fun hg E hE => .move (lt1 rfl) (.tmp (hE.at (k := 1) rfl)))) .n)<| .pure rfl (fun H => .gput (b := (decide (a1 < x_102.1))) (want := true) (j := 3) (dj := 19) rfl (lt1 rfl) (lt1 rfl) (fun E hE => hE.at (k := 0) rfl) (fun hg E hE => .move (lt1 rfl) (.tmp (hE.at (k := 1) rfl))))<| .read rfl (.c (.gput (b := (decide (a1 < x_102.1))) (want := true) (j := 3) (dj := 19) rfl (lt1 rfl) (lt1 rfl) (fun E hE => hE.at (k := 0) rfl) (fun hg E hE => .idxOwn (lt1 rfl) (.gd hg (.tmp (hE.at (k := 1) rfl))) (.gd hg (.tmp (hE.at (k := 2) rfl))) Try.underlying26 sz3 rfl (gdB hy_104 hg))) .n)<| .read rfl (.c (.gput (b := (decide (a1 < x_102.1))) (want := true) (j := 3) (dj := 19) rfl (lt1 rfl) (lt1 rfl) (fun E hE => hE.at (k := 0) rfl) (fun hg E hE => .loadP (lt1 rfl) (.gd hg (.tmp (hE.at (k := 1) rfl))) one3 rfl (cell_at1 (encI_len .i64) (gdB hy_104 hg)) rfl)) .n)<| .read rfl (.c (.gput (b := (decide (a1 < x_102.1))) (want := true) (j := 3) (dj := 19) rfl (lt1 rfl) (lt1 rfl) (fun E hE => hE.at (k := 0) rfl) (fun hg E hE => .move (lt1 rfl) (.tmp (hE.at (k := 1) rfl)))) .n)<| .pure rfl (fun H => .gput (b := (decide (a1 < x_102.1))) (want := true) (j := 3) (dj := 19) rfl (lt1 rfl) (lt1 rfl) (fun E hE => hE.at (k := 0) rfl) (fun hg E hE => .move (lt1 rfl) (.tmp (hE.at (k := 1) rfl))))<| .pure rfl (fun H => .gput (b := (decide (a1 < x_102.1))) (want := true) (j := 3) (dj := 19) rfl (lt1 rfl) (lt1 rfl) (fun E hE => hE.at (k := 0) rfl) (fun hg E hE => .sub (lt1 rfl) (.gd hg (.tmp (hE.at (k := 1) rfl))) (.const _ _ _)))<| .read rfl (.c (.gput (b := (decide (a1 < x_102.1))) (want := true) (j := 3) (dj := 19) rfl (lt1 rfl) (lt1 rfl) (fun E hE => hE.at (k := 0) rfl) (fun hg E hE => .idxOwn (lt1 rfl) (.gd hg (.tmp (hE.at (k := 1) rfl))) (.gd hg (.tmp (hE.at (k := 2) rfl))) Try.underlying26 sz3 rfl (gdB hy_105 hg))) .n)<| .read rfl (.c (.gput (b := (decide (a1 < x_102.1))) (want := true) (j := 3) (dj := 19) rfl (lt1 rfl) (lt1 rfl) (fun E hE => hE.at (k := 0) rfl) (fun hg E hE => .loadP (lt1 rfl) (.gd hg (.tmp (hE.at (k := 1) rfl))) one3 rfl (cell_at1 (encI_len .i64) (gdB hy_105 hg)) rfl)) .n)<| .pure rfl (fun H => .gput (b := (decide (a1 < x_102.1))) (want := true) (j := 3) (dj := 19) rfl (lt1 rfl) (lt1 rfl) (fun E hE => hE.at (k := 0) rfl) (fun hg E hE => .call0 (bw := false) (lt1 rfl) (c83 n y_104 y_105 (gdB hy_106 hg)) (.cons (.gd hg (.tmp (hE.at (k := 1) rfl))) (.ren rfl) (.cons (.gd hg (.tmp (hE.at (k := 2) rfl))) (.ren rfl) (.nil))) rfl))<| .pure rfl (fun H => .put (fun E hE => .pickAnd (lt1 rfl) (.tmp (hE.at (k := 0) rfl)) (.tmp (hE.at (k := 1) rfl)) (.const _ _ _)))<| .nil _) (fun E hE => .c (DInv.at hE (k := 0) rfl rfl rfl)<| .c (DInv.at hE (k := 1) rfl rfl rfl)<| .c (DInv.at hE (k := 2) rfl rfl rfl)<| .c (DInv.at hE (k := 3) rfl rfl rfl)<| .c (DInv.at hE (k := 4) rfl rfl rfl)<| .c (DInv.at hE (k := 19) rfl rfl rfl)<| .n _) rfl ?_
        refine AWP.vc (s' := ⟨[(0,.own 1 1 0 x_102.2.length),(1,.sc (.int .i64 a1)),(2,.sc (.int .i64 a2)),(6,.sc (.int .i64 x_78.1)),(7,.sc (.int .i64 x_102.1)),(30,.sc (.bool ((decide (a1 < x_102.1)) && y_106)))],[(1,⟨3,true,x_102.2.flatMap (encI .i64)⟩)]⟩) (VC.sub (.c rfl<| .c rfl<| .c rfl<| .c rfl<| .c rfl<| .c rfl<| .n _) (.c rfl<| .n _)) ?_
        refine AWP.cond (.tmp rfl) (fun hc => ?_) (fun hc => ?_)
        · have h := iteT hc h
          refine AWP.skip ?_
          refine AWP.seq ?_
          refine AWP.block ?_
          obtain ⟨y_107,hy_107,h⟩ := bindS h
          obtain ⟨y_108,hy_108,h⟩ := bindS h
          obtain ⟨y_109,hy_109,h⟩ := bindS h
          obtain ⟨l1_110,hl1_110,h⟩ := bindS h
          obtain ⟨y_111,hy_111,h⟩ := bindS h
          obtain ⟨l1_112,hl1_112,h⟩ := bindS h
          refine AWP.draw (s' := ⟨[(0,.own 1 1 0 x_102.2.length),(1,.sc (.int .i64 a1)),(2,.sc (.int .i64 a2)),(6,.sc (.int .i64 x_78.1)),(7,.sc (.int .i64 x_102.1))],[(1,⟨3,true,l1_112.flatMap (encI .i64)⟩)]⟩) mixed [⟨0,.own 1 1 0 x_102.2.length,none,[]⟩,⟨1,.sc (.int .i64 a1),none,[]⟩,⟨2,.sc (.int .i64 a2),none,[]⟩,⟨6,.sc (.int .i64 x_78.1),none,[]⟩,⟨7,.sc (.int .i64 x_102.1),none,[]⟩,⟨30,.sc (.bool ((decide (a1 < x_102.1)) && y_106)),none,[]⟩,⟨33,.own 1 1 0 x_102.2.length,some 0,[]⟩,⟨34,.sc (.int .i64 x_102.1),some 1,[]⟩,⟨35,.own 1 1 0 x_102.2.length,some 2,[]⟩,⟨36,.sc (.int .i64 x_102.1),some 3,[]⟩,⟨37,.sc (.int .i64 (IntKind.wrap .i64 (x_102.1 - (1 : Int)))),some 4,[]⟩,⟨38,.own 1 1 0 x_102.2.length,some 5,[]⟩,⟨39,.sc (.int .i64 x_102.1),some 6,[]⟩,⟨40,.sc (.int .i64 (IntKind.wrap .i64 (x_102.1 - (1 : Int)))),some 7,[]⟩,⟨41,.ptr 1 (0 + ((IntKind.wrap .i64 (x_102.1 - (1 : Int)))).toNat * 1),some 8,[]⟩,⟨42,.sc (.int .i64 y_107),some 9,[]⟩,⟨43,.own 1 1 0 x_102.2.length,some 10,[]⟩,⟨44,.sc (.int .i64 x_102.1),some 11,[]⟩,⟨45,.ptr 1 (0 + (x_102.1).toNat * 1),some 12,[]⟩,⟨46,.sc (.int .i64 y_108),some 13,[]⟩,⟨47,.ptr 1 (0 + (x_102.1).toNat * 1),some 14,[]⟩,⟨48,.ptr 1 (0 + ((IntKind.wrap .i64 (x_102.1 - (1 : Int)))).toNat * 1),some 16,[]⟩] [⟨[0],0,0,some (33,.own 1 1 0 x_102.2.length),[]⟩,⟨[4],0,2,some (34,.sc (.int .i64 x_102.1)),[]⟩,⟨[0],0,1,some (35,.own 1 1 0 x_102.2.length),[]⟩,⟨[4],0,2,some (36,.sc (.int .i64 x_102.1)),[]⟩,⟨[9],0,2,some (37,.sc (.int .i64 (IntKind.wrap .i64 (x_102.1 - (1 : Int))))),[]⟩,⟨[0],0,0,some (38,.own 1 1 0 x_102.2.length),[]⟩,⟨[4],0,2,some (39,.sc (.int .i64 x_102.1)),[]⟩,⟨[12],0,2,some (40,.sc (.int .i64 (IntKind.wrap .i64 (x_102.1 - (1 : Int))))),[]⟩,⟨[11,13],0,0,some (41,.ptr 1 (0 + ((IntKind.wrap .i64 (x_102.1 - (1 : Int)))).toNat * 1)),[]⟩,⟨[14],0,0,some (42,.sc (.int .i64 y_107)),[]⟩,⟨[0],0,0,some (43,.own 1 1 0 x_102.2.length),[]⟩,⟨[4],0,2,some (44,.sc (.int .i64 x_102.1)),[]⟩,⟨[16,17],0,0,some (45,.ptr 1 (0 + (x_102.1).toNat * 1)),[]⟩,⟨[18],0,0,some (46,.sc (.int .i64 y_108)),[]⟩,⟨[6,7],0,0,some (47,.ptr 1 (0 + (x_102.1).toNat * 1)),[]⟩,⟨[20,15],0,0,none,[]⟩,⟨[8,10],1,1,some (48,.ptr 1 (0 + ((IntKind.wrap .i64 (x_102.1 - (1 : Int)))).toNat * 1)),[]⟩,⟨[21,19],1,1,none,[]⟩] [15,17] [[(1,⟨3,true,x_102.2.flatMap (encI .i64)⟩)],[(1,⟨3,true,l1_110.flatMap (encI .i64)⟩)],[(1,⟨3,true,l1_112.flatMap (encI .i64)⟩)]] [[],[],[],[],[3],[],[],[6],[5,6,7],[5,6,7,8],[],[],[10,11],[10,11,12],[0,1,5,6,7,8,9,10,11,12,13],[0,1,5,6,7,8,9,10,11,12,13,14],[0,1,2,3,4,5,6,7,8,9,10,11,12,13,14,15],[0,1,2,3,4,5,6,7,8,9,10,11,12,13,14,15,16]] (by kernel_rfl) (by kernel_rfl) (BornL.ok (.o<| .o<| .o<| .o<| .o<| .o<| .b rfl rfl<| .b rfl rfl<| .b rfl rfl<| .b rfl rfl<| .b rfl rfl<| .b rfl rfl<| .b rfl rfl<| .b rfl rfl<| .b rfl rfl<| .b rfl rfl<| .b rfl rfl<| .b rfl rfl<| .b rfl rfl<| .b rfl rfl<| .b rfl rfl<| .b rfl rfl<| .n)) (BaseL.ok (.o rfl<| .o rfl<| .o rfl<| .o rfl<| .o rfl<| .o rfl<| .b<| .b<| .b<| .b<| .b<| .b<| .b<| .b<| .b<| .b<| .b<| .b<| .b<| .b<| .b<| .b<| .n)) rfl (by decide) (allLt rfl) (.read rfl (.c (.put (fun E hE => .move (lt1 rfl) (.tmp (hE.at (k := 0) rfl)))) (.n))<| .pure rfl (fun H => .put (fun E hE => .move (lt1 rfl) (.tmp (hE.at (k := 0) rfl))))<| .read rfl (.c (.put (fun E hE => .move (lt1 rfl) (.tmp (hE.at (k := 0) rfl)))) (.c (.put (fun E hE => .move (lt1 rfl) (.tmp (hE.at (k := 0) rfl)))) (.n)))<| .pure rfl (fun H => .put (fun E hE => .move (lt1 rfl) (.tmp (hE.at (k := 0) rfl))))<| .pure rfl (fun H => .put (fun E hE => .sub (lt1 rfl) (.tmp (hE.at (k := 0) rfl)) (.const _ _ _)))<| .read rfl (.c (.put (fun E hE => .move (lt1 rfl) (.tmp (hE.at (k := 0) rfl)))) (.n))<| .pure rfl (fun H => .put (fun E hE => .move (lt1 rfl) (.tmp (hE.at (k := 0) rfl))))<| .pure rfl (fun H => .put (fun E hE => .sub (lt1 rfl) (.tmp (hE.at (k := 0) rfl)) (.const _ _ _)))<| .read rfl (.c (.put (fun E hE => .idxOwn (lt1 rfl) (.tmp (hE.at (k := 0) rfl)) (.tmp (hE.at (k := 1) rfl)) Try.underlying26 sz3 rfl hy_107)) (.n))<| .read rfl (.c (.put (fun E hE => .loadP (lt1 rfl) (.tmp (hE.at (k := 0) rfl)) one3 rfl (cell_at1 (encI_len .i64) hy_107) rfl)) (.n))<| .read rfl (.c (.put (fun E hE => .move (lt1 rfl) (.tmp (hE.at (k := 0) rfl)))) (.n))<| .pure rfl (fun H => .put (fun E hE => .move (lt1 rfl) (.tmp (hE.at (k := 0) rfl))))<| .read rfl (.c (.put (fun E hE => .idxOwn (lt1 rfl) (.tmp (hE.at (k := 0) rfl)) (.tmp (hE.at (k := 1) rfl)) Try.underlying26 sz3 rfl hy_108)) (.n))<| .read rfl (.c (.put (fun E hE => .loadP (lt1 rfl) (.tmp (hE.at (k := 0) rfl)) one3 rfl (cell_at1 (encI_len .i64) hy_108) rfl)) (.n))<| .read rfl (.c (.put (fun E hE => .idxOwn (lt1 rfl) (.tmp (hE.at (k := 0) rfl)) (.tmp (hE.at (k := 1) rfl)) Try.underlying26 sz3 rfl hy_109)) (.n))<| .turn rfl rfl rfl rfl rfl (.store (fun E hE => .storeP (.tmp (hE.at (k := 0) rfl)) (.tmp (hE.at (k := 1) rfl)) sz3 rfl (lt_at1 (encI_len .i64) hy_109) rfl (fun _ => rfl) (set_at1 (encI_len .i64) hl1_110 rfl)) rfl)<| .read rfl (.c (.put (fun E hE => .idxOwn (lt1 rfl) (.ownN (Eq.symm (setLen hl1_110)) (.tmp (hE.at (k := 0) rfl))) (.tmp (hE.at (k := 1) rfl)) Try.underlying26 sz3 rfl hy_111)) (.n))<| .turn rfl rfl rfl rfl rfl (.store (fun E hE => .storeP (.tmp (hE.at (k := 0) rfl)) (.tmp (hE.at (k := 1) rfl)) sz3 rfl (lt_at1 (encI_len .i64) hy_111) rfl (fun _ => rfl) (set_at1 (encI_len .i64) hl1_112 rfl)) rfl)<| .nil _) (fun E hE => .c (DInv.at hE (k := 0) rfl rfl rfl)<| .c (DInv.at hE (k := 1) rfl rfl rfl)<| .c (DInv.at hE (k := 2) rfl rfl rfl)<| .c (DInv.at hE (k := 3) rfl rfl rfl)<| .c (DInv.at hE (k := 4) rfl rfl rfl)<| .n _) rfl ?_
          refine AWP.vc (s' := ⟨[(0,.own 1 1 0 l1_112.length),(1,.sc (.int .i64 a1)),(2,.sc (.int .i64 a2)),(6,.sc (.int .i64 x_78.1)),(7,.sc (.int .i64 x_102.1))],[(1,⟨3,true,l1_112.flatMap (encI .i64)⟩)]⟩) (VC.sub (.c (lenC (Eq.symm (Eq.trans (setLen hl1_112) (setLen hl1_110))) rfl)<| .c rfl<| .c rfl<| .c rfl<| .c rfl<| .n _) (.c rfl<| .n _)) ?_
          obtain ⟨t7_113,ht7_113,h⟩ := letS h
          refine AWP.region (.cons (.move (lt1 rfl) (.tmp rfl))<| .cons (.sub (lt1 rfl) (.tmp rfl) (.const _ _ _))<| .cons (.assign (lt1 rfl) (.tmp rfl))<| ARun.nil _ _ _) ?_
          exact endJ (t7_113,l1_112) h (by subst ht7_113; exact VC.sub (.c rfl<| .c rfl<| .c rfl<| .c rfl<| .c rfl<| .n _) (.c rfl<| .n _))
        · have h := iteF hc h
          refine AWP.exit ?_
          exact endJ x_102.2 h (VC.sub (.c rfl<| .c rfl<| .c rfl<| .c rfl<| .n _) (.c rfl<| .n _))
    · have h := iteF hc h
      refine AWP.exit ?_
      exact endJ x_78.2 h (VC.sub (.n _) (.c rfl<| .n _))
theorem c72 (n : Nat) (a0_b : (List Int)) (a1 : Int) (a2 : Int) (a3 : Int) {r : (List Int)} (h : m72 n a0_b a1 a2 a3 = some r) : Spec Try.prog 72 [1] [.own 1 1 0 a0_b.length,.sc (.int .i64 a1),.sc (.int .i64 a2),.sc (.int .i64 a3)] [(1,⟨3,true,a0_b.flatMap (encI .i64)⟩)] (.tup []) [(1,⟨3,true,r.flatMap (encI .i64)⟩)] := by
  refine Spec.of (fn := Try.f72) Try.func72 Try.ntmps72 rfl rfl (le1 rfl) (fun w0 Zs Zb T0 ι0 => ?_)
  unfold m72 at h
  refine AWP.seq ?_
  refine AWP.region (.cons (.assign (lt1 rfl) (.const _ _ _))<| ARun.nil _ _ _) ?_
  refine AWP.vc (s' := ⟨[(0,.own 1 1 0 a0_b.length),(1,.sc (.int .i64 a1)),(2,.sc (.int .i64 a2)),(3,.sc (.int .i64 a3)),(8,.sc (.bool true))],[(1,⟨3,true,a0_b.flatMap (encI .i64)⟩)]⟩) (VC.sub (.c rfl<| .c rfl<| .c rfl<| .c rfl<| .c rfl<| .n _) (.c rfl<| .n _)) ?_
  refine AWP.seq ?_
  refine AWP.region (.cons (.assign (lt1 rfl) (.const _ _ _))<| ARun.nil _ _ _) ?_
  refine AWP.vc (s' := ⟨[(0,.own 1 1 0 a0_b.length),(1,.sc (.int .i64 a1)),(2,.sc (.int .i64 a2)),(3,.sc (.int .i64 a3)),(8,.sc (.bool true)),(9,.sc (.bool true))],[(1,⟨3,true,a0_b.flatMap (encI .i64)⟩)]⟩) (VC.sub (.c rfl<| .c rfl<| .c rfl<| .c rfl<| .c rfl<| .c rfl<| .n _) (.c rfl<| .n _)) ?_
  refine AWP.block ?_
  refine AWP.vc (s' := ⟨[(0,.own 1 1 0 a0_b.length),(1,.sc (.int .i64 a1)),(2,.sc (.int .i64 a2)),(3,.sc (.int .i64 a3)),(8,.sc (.bool true)),(9,.sc (.bool true))],[(1,⟨3,true,a0_b.flatMap (encI .i64)⟩)]⟩) (VC.sub (.c rfl<| .c rfl<| .c rfl<| .c rfl<| .c rfl<| .c rfl<| .n _) (.c rfl<| .n _)) ?_
  refine AWP.loopM (S := fun x_5 : Unit => ⟨[(0,.own 1 1 0 a0_b.length),(1,.sc (.int .i64 a1)),(2,.sc (.int .i64 a2)),(3,.sc (.int .i64 a3)),(8,.sc (.bool true)),(9,.sc (.bool true))],[(1,⟨3,true,a0_b.flatMap (encI .i64)⟩)]⟩) (x := ()) (fun nx_6 x_5 h => ?_) h
  unfold m72_L1 at h
  refine AWP.block ?_
  refine AWP.seq ?_
  obtain ⟨t10_7,ht10_7,h⟩ := letS h
  refine AWP.region (.cons (.move (lt1 rfl) (.tmp rfl))<| .cons (.move (lt1 rfl) (.tmp rfl))<| .cons (.sub (lt1 rfl) (.tmp rfl) (.tmp rfl))<| .cons (.assign (lt1 rfl) (.tmp rfl))<| ARun.nil _ _ _) ?_
  refine AWP.vc (s' := ⟨[(0,.own 1 1 0 a0_b.length),(1,.sc (.int .i64 a1)),(2,.sc (.int .i64 a2)),(3,.sc (.int .i64 a3)),(8,.sc (.bool true)),(9,.sc (.bool true)),(10,.sc (.int .i64 t10_7))],[(1,⟨3,true,a0_b.flatMap (encI .i64)⟩)]⟩) (by subst ht10_7; exact VC.sub (.c rfl<| .c rfl<| .c rfl<| .c rfl<| .c rfl<| .c rfl<| .c rfl<| .n _) (.c rfl<| .n _)) ?_
  refine AWP.seq ?_
  refine AWP.seq ?_
  refine AWP.region (.cons (.move (lt1 rfl) (.tmp rfl))<| .cons (.leq (lt1 rfl) (.tmp rfl) (.const _ _ _))<| ARun.nil _ _ _) ?_
  refine AWP.vc (s' := ⟨[(0,.own 1 1 0 a0_b.length),(1,.sc (.int .i64 a1)),(2,.sc (.int .i64 a2)),(3,.sc (.int .i64 a3)),(8,.sc (.bool true)),(9,.sc (.bool true)),(10,.sc (.int .i64 t10_7)),(23,.sc (.bool (decide (t10_7 ≤ (12 : Int)))))],[(1,⟨3,true,a0_b.flatMap (encI .i64)⟩)]⟩) (VC.sub (.c rfl<| .c rfl<| .c rfl<| .c rfl<| .c rfl<| .c rfl<| .c rfl<| .c rfl<| .n _) (.c rfl<| .n _)) ?_
  refine AWP.cond (.tmp rfl) (fun hc => ?_) (fun hc => ?_)
  · have h := iteT hc h
    refine AWP.seq ?_
    obtain ⟨y_8,hy_8,h⟩ := bindS h
    obtain ⟨ha_9,h⟩ := asrtS h
    refine AWP.region (.cons (.move (lt1 rfl) (.tmp rfl))<| .cons (.move (lt1 rfl) (.tmp rfl))<| .cons (.move (lt1 rfl) (.tmp rfl))<| .cons (.call (σ := fun _ => 1) (bw := false) (lt1 rfl) (c77 n a0_b a1 a2 hy_8) (.cons (.tmp rfl) (.ren rfl) (.cons (.tmp rfl) (.ren rfl) (.cons (.tmp rfl) (.ren rfl) (.nil)))) (CallOk.mk' (.c rfl (.n)) rfl))<| ARun.nil _ _ _) ?_
    refine AWP.ret ?_
    obtain rfl := Option.some.inj h
    refine retJ (Res.vc (s' := ⟨[],[(1,⟨3,true,y_8.flatMap (encI .i64)⟩)]⟩) (VC.sub (.n _) (.c rfl<| .n _)) ?_)
    refine Res.sub (H := [(1,⟨3,true,y_8.flatMap (encI .i64)⟩)]) (.c rfl<| .n _) ?_
    exact Res.of rfl (.nil) rfl rfl
  · have h := iteF hc h
    refine AWP.skip ?_
    refine AWP.seq ?_
    refine AWP.seq ?_
    cases h
theorem c61 (n : Nat) (a0_b : (List Int)) {r : (List Int)} (h : m61 n a0_b = some r) : Spec Try.prog 61 [1] [.own 1 1 0 a0_b.length] [(1,⟨3,true,a0_b.flatMap (encI .i64)⟩)] (.tup []) [(1,⟨3,true,r.flatMap (encI .i64)⟩)] := by
  refine Spec.of (fn := Try.f61) Try.func61 Try.ntmps61 rfl rfl (le1 rfl) (fun w0 Zs Zb T0 ι0 => ?_)
  unfold m61 at h
  refine AWP.seq ?_
  refine AWP.region (.cons (.move (lt1 rfl) (.tmp rfl))<| .cons (.lenOwn (lt1 rfl) (.tmp rfl) Try.underlying26)<| .cons (.assign (lt1 rfl) (.tmp rfl))<| ARun.nil _ _ _) ?_
  refine AWP.vc (s' := ⟨[(0,.own 1 1 0 a0_b.length),(2,.sc (.int .i64 (a0_b.length : Int)))],[(1,⟨3,true,a0_b.flatMap (encI .i64)⟩)]⟩) (VC.sub (.c rfl<| .c rfl<| .n _) (.c rfl<| .n _)) ?_
  obtain ⟨y_1,hy_1,h⟩ := bindS h
  obtain ⟨y_2,hy_2,h⟩ := bindS h
  obtain ⟨ha_3,h⟩ := asrtS h
  refine AWP.region (.cons (.move (lt1 rfl) (.tmp rfl))<| .cons (.move (lt1 rfl) (.tmp rfl))<| .cons (.move (lt1 rfl) (.tmp rfl))<| .cons (.conv (lt1 rfl) (.tmp rfl) Try.underlying3 Try.underlying104)<| .cons (.call0 (bw := false) (lt1 rfl) (c73 n (IntKind.wrap .u64 (a0_b.length : Int)) hy_1) (.cons (.tmp rfl) (.ren rfl) (.nil)) rfl)<| .cons (.call (σ := fun _ => 1) (bw := false) (lt1 rfl) (c72 n a0_b (0 : Int) (a0_b.length : Int) y_1 hy_2) (.cons (.tmp rfl) (.ren rfl) (.cons (.const _ _ _) (.ren rfl) (.cons (.tmp rfl) (.ren rfl) (.cons (.tmp rfl) (.ren rfl) (.nil))))) (CallOk.mk' (.c rfl (.n)) rfl))<| ARun.nil _ _ _) ?_
  obtain rfl := Option.some.inj h
  refine norJ (Res.vc (s' := ⟨[],[(1,⟨3,true,y_2.flatMap (encI .i64)⟩)]⟩) (VC.sub (.n _) (.c rfl<| .n _)) ?_)
  refine Res.sub (H := [(1,⟨3,true,y_2.flatMap (encI .i64)⟩)]) (.c rfl<| .n _) ?_
  exact Res.of rfl (.nil) rfl rfl
theorem c49 {β1 : Bool} (n : Nat) (a0 : (List R38)) {r : Int} (h : m49 n a0 = some r) : Spec Try.prog 49 [] [.rd β1 a0.length (a0.flatMap encR38)] [] (.sc (.int .i64 r)) [] := by
  refine Spec.of (fn := Try.f49) Try.func49 Try.ntmps49 rfl rfl (le1 rfl) (fun w0 Zs Zb T0 ι0 => ?_)
  unfold m49 at h
  refine AWP.seq ?_
  refine AWP.region (.cons (.assign (lt1 rfl) (.const _ _ _))<| ARun.nil _ _ _) ?_
  refine AWP.vc (s' := ⟨[(0,.rd β1 a0.length (a0.flatMap encR38))],[]⟩) (VC.sub (.c rfl<| .n _) (.n _)) ?_
  refine AWP.seq ?_
  refine AWP.region (.cons (.assign (lt1 rfl) (.const _ _ _))<| ARun.nil _ _ _) ?_
  refine AWP.vc (s' := ⟨[(0,.rd β1 a0.length (a0.flatMap encR38)),(3,.sc (.slice none 0 0))],[]⟩) (VC.sub (.c rfl<| .c rfl<| .n _) (.n _)) ?_
  refine AWP.seq ?_
  refine AWP.seq ?_
  refine AWP.region (.cons (.move (lt1 rfl) (.tmp rfl))<| .cons (.lenRd (lt1 rfl) (.tmp rfl) Try.underlying30)<| .cons (.move (lt1 rfl) (.const _ _ _))<| ARun.nil _ _ _) ?_
  refine AWP.vc (s' := ⟨[(0,.rd β1 a0.length (a0.flatMap encR38)),(3,.sc (.slice none 0 0)),(9,.rd β1 a0.length (a0.flatMap encR38)),(10,.sc (.int .i64 (a0.length : Int))),(11,.sc (.int .i64 (0 : Int)))],[]⟩) (VC.sub (.c rfl<| .c rfl<| .c rfl<| .c rfl<| .c rfl<| .n _) (.n _)) ?_
  refine AWP.joinB' (S := fun p_14 : (List Int) => ⟨[(0,.rd β1 a0.length (a0.flatMap encR38)),(3,.own 1 1 0 p_14.length)],[(1,⟨3,true,p_14.flatMap (encI .i64)⟩)]⟩) h (fun p_14 h => ?_) (fun k_15 h => ?_)
  · refine AWP.seq ?_
    obtain ⟨y_16,hy_16,h⟩ := bindS h
    obtain ⟨ha_17,h⟩ := asrtS h
    refine AWP.region (.cons (.move (lt1 rfl) (.tmp rfl))<| .cons (.call (σ := fun _ => 1) (bw := false) (lt1 rfl) (c61 n p_14 hy_16) (.cons (.tmp rfl) (.ren rfl) (.nil)) (CallOk.mk' (.c rfl (.n)) rfl))<| ARun.nil _ _ _) ?_
    refine AWP.vc (s' := ⟨[(0,.rd β1 a0.length (a0.flatMap encR38)),(3,.own 1 1 0 y_16.length)],[(1,⟨3,true,y_16.flatMap (encI .i64)⟩)]⟩) (VC.sub (.c rfl<| .c (lenC (Eq.symm (Eq.symm ha_17)) rfl)<| .n _) (.c rfl<| .n _)) ?_
    refine AWP.seq ?_
    refine AWP.region (.cons (.assign (lt1 rfl) (.const _ _ _))<| ARun.nil _ _ _) ?_
    refine AWP.vc (s' := ⟨[(0,.rd β1 a0.length (a0.flatMap encR38)),(3,.own 1 1 0 y_16.length),(6,.sc (.int .i64 (0 : Int)))],[(1,⟨3,true,y_16.flatMap (encI .i64)⟩)]⟩) (VC.sub (.c rfl<| .c rfl<| .c rfl<| .n _) (.c rfl<| .n _)) ?_
    refine AWP.seq ?_
    refine AWP.seq ?_
    obtain ⟨y_18,hy_18,h⟩ := bindS h
    refine AWP.region (.cons (.move (lt1 rfl) (.tmp rfl))<| .cons (.call0 (bw := false) (lt1 rfl) (c50 (β1 := β1) n a0 hy_18) (.cons (.tmp rfl) (.ren rfl) (.nil)) rfl)<| .cons (.lenRd (lt1 rfl) (.tmp rfl) Try.underlying26)<| .cons (.move (lt1 rfl) (.const _ _ _))<| ARun.nil _ _ _) ?_
    refine AWP.vc (s' := ⟨[(3,.own 1 1 0 y_16.length),(6,.sc (.int .i64 (0 : Int))),(24,.rd false y_18.length (y_18.flatMap (encI .i64))),(25,.sc (.int .i64 (y_18.length : Int))),(26,.sc (.int .i64 (0 : Int)))],[(1,⟨3,true,y_16.flatMap (encI .i64)⟩)]⟩) (VC.sub (.c rfl<| .c rfl<| .c rfl<| .c rfl<| .c rfl<| .n _) (.c rfl<| .n _)) ?_
    refine AWP.joinB' (S := fun p_35 : Int => ⟨[(6,.sc (.int .i64 p_35))],[]⟩) h (fun p_35 h => ?_) (fun k_36 h => ?_)
    · refine AWP.seq ?_
      refine AWP.region (.cons (.move (lt1 rfl) (.tmp rfl))<| .cons (.assign (lt1 rfl) (.tmp rfl))<| ARun.nil _ _ _) ?_
      refine AWP.ret ?_
      obtain rfl := Option.some.inj h
      refine retJ (Res.vc (s' := ⟨[(2,.sc (.int .i64 p_35))],[]⟩) (VC.sub (.c rfl<| .n _) (.n _)) ?_)
      refine Res.drop (H := []) rfl ?_
      exact Res.of rfl (.cons (.tmp rfl) (.nil)) rfl rfl
    · refine AWP.vc (s' := ⟨[(3,.own 1 1 0 y_16.length),(6,.sc (.int .i64 (0 : Int))),(24,.rd false y_18.length (y_18.flatMap (encI .i64))),(25,.sc (.int .i64 (y_18.length : Int))),(26,.sc (.int .i64 (0 : Int)))],[(1,⟨3,true,y_16.flatMap (encI .i64)⟩)]⟩) (VC.sub (.c rfl<| .c rfl<| .c rfl<| .c rfl<| .c rfl<| .n _) (.c rfl<| .n _)) ?_
      refine AWP.loopM (S := fun x_29 : Int × Int => ⟨[(3,.own 1 1 0 y_16.length),(6,.sc (.int .i64 x_29.1)),(24,.rd false y_18.length (y_18.flatMap (encI .i64))),(25,.sc (.int .i64 (y_18.length : Int))),(26,.sc (.int .i64 x_29.2))],[(1,⟨3,true,y_16.flatMap (encI .i64)⟩)]⟩) (x := ((0 : Int),(0 : Int))) (fun nx_30 x_29 h => ?_) h
      unfold m49_L2 at h
      refine AWP.seq ?_
      refine AWP.region (.cons (.lss (lt1 rfl) (.tmp rfl) (.tmp rfl))<| ARun.nil _ _ _) ?_
      refine AWP.vc (s' := ⟨[(3,.own 1 1 0 y_16.length),(6,.sc (.int .i64 x_29.1)),(24,.rd false y_18.length (y_18.flatMap (encI .i64))),(25,.sc (.int .i64 (y_18.length : Int))),(26,.sc (.int .i64 x_29.2)),(27,.sc (.bool (decide (x_29.2 < (y_18.length : Int)))))],[(1,⟨3,true,y_16.flatMap (encI .i64)⟩)]⟩) (VC.sub (.c rfl<| .c rfl<| .c rfl<| .c rfl<| .c rfl<| .c rfl<| .n _) (.c rfl<| .n _)) ?_
      refine AWP.seq ?_
      refine AWP.cond (.tmp rfl) (fun hc => ?_) (fun hc => ?_)
      · have h := iteT hc h
        refine AWP.skip ?_
        refine AWP.seq ?_
        refine AWP.block ?_
        refine AWP.seq ?_
        obtain ⟨y_31,hy_31,h⟩ := bindS h
        refine AWP.region (.cons (.move (lt1 rfl) (.tmp rfl))<| .cons (.indexRd (enc := (encI .i64)) (lt1 rfl) (.tmp rfl) (.tmp rfl) Try.underlying26 sz3 (encI_len .i64) rfl hy_31)<| .cons (.loadR (v := .sc (.int .i64 y_31)) (lt1 rfl) (.tmp rfl) one3 rfl)<| .cons (.assign (lt1 rfl) (.tmp rfl))<| .cons (.assign (lt1 rfl) (.tmp rfl))<| ARun.nil _ _ _) ?_
        refine AWP.vc (s' := ⟨[(3,.own 1 1 0 y_16.length),(6,.sc (.int .i64 x_29.1)),(24,.rd false y_18.length (y_18.flatMap (encI .i64))),(25,.sc (.int .i64 (y_18.length : Int))),(26,.sc (.int .i64 x_29.2)),(7,.sc (.int .i64 x_29.2)),(8,.sc (.int .i64 y_31))],[(1,⟨3,true,y_16.flatMap (encI .i64)⟩)]⟩) (VC.sub (.c rfl<| .c rfl<| .c rfl<| .c rfl<| .c rfl<| .c rfl<| .c rfl<| .n _) (.c rfl<| .n _)) ?_
        obtain ⟨y_32,hy_32,h⟩ := bindS h
        obtain ⟨t6_33,ht6_33,h⟩ := letS h
        refine AWP.region (.cons (.move (lt1 rfl) (.tmp rfl))<| .cons (.move (lt1 rfl) (.tmp rfl))<| .cons (.move (lt1 rfl) (.tmp rfl))<| .cons (.move (lt1 rfl) (.tmp rfl))<| .cons (.idxOwn (lt1 rfl) (.tmp rfl) (.tmp rfl) Try.underlying26 sz3 rfl hy_32)<| .cons (.loadP (lt1 rfl) (.tmp rfl) one3 rfl (cell_at1 (encI_len .i64) hy_32) rfl)<| .cons (.sub (lt1 rfl) (.tmp rfl) (.tmp rfl))<| .cons (.max2 (lt1 rfl) (.const _ _ _) (.tmp rfl))<| .cons (.add (lt1 rfl) (.tmp rfl) (.tmp rfl))<| .cons (.assign (lt1 rfl) (.tmp rfl))<| ARun.nil _ _ _) ?_
        refine AWP.vc (s' := ⟨[(3,.own 1 1 0 y_16.length),(6,.sc (.int .i64 t6_33)),(24,.rd false y_18.length (y_18.flatMap (encI .i64))),(25,.sc (.int .i64 (y_18.length : Int))),(26,.sc (.int .i64 x_29.2))],[(1,⟨3,true,y_16.flatMap (encI .i64)⟩)]⟩) (by subst ht6_33; exact VC.sub (.c rfl<| .c rfl<| .c rfl<| .c rfl<| .c rfl<| .n _) (.c rfl<| .n _)) ?_
        obtain ⟨t26_34,ht26_34,h⟩ := letS h
        refine AWP.region (.cons (.add (lt1 rfl) (.tmp rfl) (.const _ _ _))<| .cons (.move (lt1 rfl) (.tmp rfl))<| ARun.nil _ _ _) ?_
        exact endJ (t6_33,t26_34) h (by subst ht26_34; exact VC.sub (.c rfl<| .c rfl<| .c rfl<| .c rfl<| .c rfl<| .n _) (.c rfl<| .n _))
      · have h := iteF hc h
        refine AWP.exit ?_
        exact endJ x_29.1 h (VC.sub (.c rfl<| .n _) (.n _))
  · refine AWP.vc (VC.nilOwn (d := 3) (t := 1) (sz := 1) (E := 3) rfl (nm rfl)) ?_
    refine AWP.vc (s' := ⟨[(0,.rd β1 a0.length (a0.flatMap encR38)),(3,.own 1 1 0 ([] : List Int).length),(9,.rd β1 a0.length (a0.flatMap encR38)),(10,.sc (.int .i64 (a0.length : Int))),(11,.sc (.int .i64 (0 : Int)))],[(1,⟨3,true,([] : List Int).flatMap (encI .i64)⟩)]⟩) (VC.sub (.c rfl<| .c rfl<| .c rfl<| .c rfl<| .c rfl<| .n _) (.c rfl<| .n _)) ?_
    refine AWP.loopM (S := fun x_9 : Int × (List Int) => ⟨[(0,.rd β1 a0.length (a0.flatMap encR38)),(3,.own 1 1 0 x_9.2.length),(9,.rd β1 a0.length (a0.flatMap encR38)),(10,.sc (.int .i64 (a0.length : Int))),(11,.sc (.int .i64 x_9.1))],[(1,⟨3,true,x_9.2.flatMap (encI .i64)⟩)]⟩) (x := ((0 : Int),([] : List Int))) (fun nx_10 x_9 h => ?_) h
    unfold m49_L1 at h
    refine AWP.seq ?_
    refine AWP.region (.cons (.lss (lt1 rfl) (.tmp rfl) (.tmp rfl))<| ARun.nil _ _ _) ?_
    refine AWP.vc (s' := ⟨[(0,.rd β1 a0.length (a0.flatMap encR38)),(3,.own 1 1 0 x_9.2.length),(9,.rd β1 a0.length (a0.flatMap encR38)),(10,.sc (.int .i64 (a0.length : Int))),(11,.sc (.int .i64 x_9.1)),(12,.sc (.bool (decide (x_9.1 < (a0.length : Int)))))],[(1,⟨3,true,x_9.2.flatMap (encI .i64)⟩)]⟩) (VC.sub (.c rfl<| .c rfl<| .c rfl<| .c rfl<| .c rfl<| .c rfl<| .n _) (.c rfl<| .n _)) ?_
    refine AWP.seq ?_
    refine AWP.cond (.tmp rfl) (fun hc => ?_) (fun hc => ?_)
    · have h := iteT hc h
      refine AWP.skip ?_
      refine AWP.seq ?_
      refine AWP.block ?_
      refine AWP.seq ?_
      obtain ⟨y_11,hy_11,h⟩ := bindS h
      refine AWP.region (.cons (.indexRd (enc := encR38) (lt1 rfl) (.tmp rfl) (.tmp rfl) Try.underlying30 sz40 encR38_len rfl hy_11)<| .cons (.loadRA (out := [.sc (.int .i64 y_11.Release),.sc (.int .i64 y_11.Length),.sc (.int .i64 y_11.Due)]) (lt1 rfl) (.tmp rfl) agg40 (Nat.le_of_eq (Eq.symm (encR38_len _))) rfl)<| .cons (.alloc (t := 2) (k := ⟨40,false,[.sc (.int .i64 (0 : Int)),.sc (.int .i64 (0 : Int)),.sc (.int .i64 (0 : Int))]⟩) (lt1 rfl) (nm rfl) zero40 rfl rfl)<| .cons (.storePA (.tmp rfl) (.tmp rfl) sz40 rfl rfl (le1 rfl) (one_lit rfl) (by intro h; cases h) rfl)<| ARun.nil _ _ _) ?_
      refine AWP.vc (s' := ⟨[(0,.rd β1 a0.length (a0.flatMap encR38)),(3,.own 1 1 0 x_9.2.length),(9,.rd β1 a0.length (a0.flatMap encR38)),(10,.sc (.int .i64 (a0.length : Int))),(11,.sc (.int .i64 x_9.1)),(5,.ptr 2 0)],[(2,⟨40,false,[.sc (.int .i64 y_11.Release),.sc (.int .i64 y_11.Length),.sc (.int .i64 y_11.Due)]⟩),(1,⟨3,true,x_9.2.flatMap (encI .i64)⟩)]⟩) (VC.sub (.c rfl<| .c rfl<| .c rfl<| .c rfl<| .c rfl<| .c rfl<| .n _) (.c rfl<| .c rfl<| .n _)) ?_
      obtain ⟨l1_12,hl1_12,h⟩ := bindS h
      refine AWP.region (.cons (.move (lt1 rfl) (.tmp rfl))<| .cons (.fieldP (lt1 rfl) (.tmp rfl) fld40_2)<| .cons (.loadP (lt1 rfl) (.tmp rfl) one3 rfl rfl rfl)<| .cons (.buildSlice (t := 3) (out := ([y_11.Due] : List Int).flatMap (encI .i64)) (lt1 rfl) (nm rfl) (.cons (.tmp rfl) (by first | exact ⟨rfl,rfl⟩ | rfl) (.nil)) Try.underlying26 zero3 el3 (by decide) (by decide) rfl (still_all (encI_still .i64) _))<| .cons (.app (enc := (encI .i64)) (lt1 rfl) (nm rfl) (.tmp rfl) (Src.own (.tmp rfl) rfl (lendAll (encI_len .i64) _) (flatMap_length (encI_len .i64) _) (one_all (encI_one .i64) _) (.inl rfl)) Try.underlying26 ⟨_,Try.underlying26,by intro k hk; cases hk⟩ el3 rfl (encI_len .i64) rfl rfl (by decide) hl1_12)<| .cons (.assign (lt1 rfl) (.tmp rfl))<| ARun.nil _ _ _) ?_
      refine AWP.vc (s' := ⟨[(0,.rd β1 a0.length (a0.flatMap encR38)),(3,.own 1 1 0 l1_12.length),(9,.rd β1 a0.length (a0.flatMap encR38)),(10,.sc (.int .i64 (a0.length : Int))),(11,.sc (.int .i64 x_9.1))],[(1,⟨3,true,l1_12.flatMap (encI .i64)⟩)]⟩) (VC.sub (.c rfl<| .c rfl<| .c rfl<| .c rfl<| .c rfl<| .n _) (.c rfl<| .n _)) ?_
      obtain ⟨t11_13,ht11_13,h⟩ := letS h
      refine AWP.region (.cons (.add (lt1 rfl) (.tmp rfl) (.const _ _ _))<| .cons (.move (lt1 rfl) (.tmp rfl))<| ARun.nil _ _ _) ?_
      exact endJ (t11_13,l1_12) h (by subst ht11_13; exact VC.sub (.c rfl<| .c rfl<| .c rfl<| .c rfl<| .c rfl<| .n _) (.c rfl<| .n _))
    · have h := iteF hc h
      refine AWP.exit ?_
      exact endJ x_9.2 h (VC.sub (.c rfl<| .c rfl<| .n _) (.c rfl<| .n _))
theorem c51 {β1 : Bool} (n : Nat) (a0 : (List Int)) {r : (List Int)} (h : m51 n a0 = some r) : Spec Try.prog 51 [] [.rd β1 a0.length (a0.flatMap (encI .i64))] [] (.rd false r.length (r.flatMap (encI .i64))) [] := by
  refine Spec.of (fn := Try.f51) Try.func51 Try.ntmps51 rfl rfl (le1 rfl) (fun w0 Zs Zb T0 ι0 => ?_)
  unfold m51 at h
  refine AWP.seq ?_
  refine AWP.region (.cons (.assign (lt1 rfl) (.const _ _ _))<| ARun.nil _ _ _) ?_
  refine AWP.vc (s' := ⟨[(0,.rd β1 a0.length (a0.flatMap (encI .i64)))],[]⟩) (VC.sub (.c rfl<| .n _) (.n _)) ?_
  refine AWP.seq ?_
  refine AWP.region (.cons (.assign (lt1 rfl) (.const _ _ _))<| ARun.nil _ _ _) ?_
  refine AWP.vc (s' := ⟨[(0,.rd β1 a0.length (a0.flatMap (encI .i64))),(3,.sc (.slice none 0 0))],[]⟩) (VC.sub (.c rfl<| .c rfl<| .n _) (.n _)) ?_
  refine AWP.seq ?_
  refine AWP.seq ?_
  refine AWP.region (.cons (.assign (lt1 rfl) (.const _ _ _))<| ARun.nil _ _ _) ?_
  refine AWP.vc (s' := ⟨[(0,.rd β1 a0.length (a0.flatMap (encI .i64))),(3,.sc (.slice none 0 0)),(4,.sc (.int .i64 (0 : Int)))],[]⟩) (VC.sub (.c rfl<| .c rfl<| .c rfl<| .n _) (.n _)) ?_
  refine AWP.joinB' (S := fun p_72 : (List Int) => ⟨[(3,.rd false p_72.length (p_72.flatMap (encI .i64)))],[]⟩) h (fun p_72 h => ?_) (fun k_73 h => ?_)
  · refine AWP.seq ?_
    refine AWP.region (.cons (.move (lt1 rfl) (.tmp rfl))<| .cons (.assign (lt1 rfl) (.tmp rfl))<| ARun.nil _ _ _) ?_
    refine AWP.ret ?_
    obtain rfl := Option.some.inj h
    refine retJ (Res.vc (s' := ⟨[(2,.rd false p_72.length (p_72.flatMap (encI .i64)))],[]⟩) (VC.sub (.c rfl<| .n _) (.n _)) ?_)
    refine Res.drop (H := []) rfl ?_
    exact Res.of rfl (.cons (.tmp rfl) (.nil)) rfl rfl
  · refine AWP.vc (VC.nilRd (d := 3) false rfl) ?_
    refine AWP.vc (s' := ⟨[(0,.rd β1 a0.length (a0.flatMap (encI .i64))),(3,.rd false ([] : List Int).length (([] : List Int).flatMap (encI .i64))),(4,.sc (.int .i64 (0 : Int)))],[]⟩) (VC.sub (.c rfl<| .c rfl<| .c rfl<| .n _) (.n _)) ?_
    refine AWP.loopM (S := fun x_48 : (List Int) × Int => ⟨[(0,.rd β1 a0.length (a0.flatMap (encI .i64))),(3,.rd false x_48.1.length (x_48.1.flatMap (encI .i64))),(4,.sc (.int .i64 x_48.2))],[]⟩) (x := (([] : List Int),(0 : Int))) (fun nx_49 x_48 h => ?_) h
    unfold m51_L3 at h
    refine AWP.seq ?_
    refine AWP.seq ?_
    refine AWP.region (.cons (.move (lt1 rfl) (.tmp rfl))<| .cons (.move (lt1 rfl) (.tmp rfl))<| .cons (.lenRd (lt1 rfl) (.tmp rfl) Try.underlying26)<| .cons (.lss (lt1 rfl) (.tmp rfl) (.tmp rfl))<| ARun.nil _ _ _) ?_
    refine AWP.vc (s' := ⟨[(0,.rd β1 a0.length (a0.flatMap (encI .i64))),(3,.rd false x_48.1.length (x_48.1.flatMap (encI .i64))),(4,.sc (.int .i64 x_48.2)),(9,.sc (.bool (decide (x_48.2 < (a0.length : Int)))))],[]⟩) (VC.sub (.c rfl<| .c rfl<| .c rfl<| .c rfl<| .n _) (.n _)) ?_
    refine AWP.cond (.tmp rfl) (fun hc => ?_) (fun hc => ?_)
    · have h := iteT hc h
      refine AWP.skip ?_
      refine AWP.seq ?_
      refine AWP.block ?_
      refine AWP.seq ?_
      refine AWP.region (.cons (.move (lt1 rfl) (.tmp rfl))<| .cons (.lenRd (lt1 rfl) (.tmp rfl) Try.underlying26)<| .cons (.assign (lt1 rfl) (.tmp rfl))<| ARun.nil _ _ _) ?_
      refine AWP.vc (s' := ⟨[(0,.rd β1 a0.length (a0.flatMap (encI .i64))),(3,.rd false x_48.1.length (x_48.1.flatMap (encI .i64))),(4,.sc (.int .i64 x_48.2)),(5,.sc (.int .i64 (x_48.1.length : Int)))],[]⟩) (VC.sub (.c rfl<| .c rfl<| .c rfl<| .c rfl<| .n _) (.n _)) ?_
      refine AWP.seq ?_
      refine AWP.joinB' (S := fun p_63 : Int => ⟨[(0,.rd β1 a0.length (a0.flatMap (encI .i64))),(3,.rd false x_48.1.length (x_48.1.flatMap (encI .i64))),(4,.sc (.int .i64 x_48.2)),(5,.sc (.int .i64 p_63))],[]⟩) h (fun p_63 h => ?_) (fun k_64 h => ?_)
      · obtain ⟨s_65,hs_65,h⟩ := bindS h
        obtain ⟨y_66,hy_66,h⟩ := bindS h
        obtain ⟨s_67,hs_67,h⟩ := bindS h
        obtain ⟨l1_68,hl1_68,h⟩ := bindS h
        obtain ⟨ha_69,h⟩ := asrtS h
        obtain ⟨l2_70,hl2_70,h⟩ := bindS h
        refine AWP.draw (s' := ⟨[(0,.rd β1 a0.length (a0.flatMap (encI .i64))),(3,.own 2 1 0 l2_70.length),(4,.sc (.int .i64 x_48.2))],[(2,⟨3,true,l2_70.flatMap (encI .i64)⟩),(1,⟨3,true,l1_68.flatMap (encI .i64)⟩)]⟩) mixed [⟨0,.rd β1 a0.length (a0.flatMap (encI .i64)),none,[]⟩,⟨3,.rd false x_48.1.length (x_48.1.flatMap (encI .i64)),none,[14]⟩,⟨4,.sc (.int .i64 x_48.2),none,[]⟩,⟨5,.sc (.int .i64 p_63),none,[]⟩,⟨30,.rd false x_48.1.length (x_48.1.flatMap (encI .i64)),some 0,[]⟩,⟨31,.sc (.int .i64 p_63),some 1,[]⟩,⟨32,.sc (.int .i64 p_63),some 2,[]⟩,⟨33,.rdx false s_65.length (s_65.flatMap (encI .i64)),some 3,[]⟩,⟨34,.rd β1 a0.length (a0.flatMap (encI .i64)),some 4,[]⟩,⟨35,.sc (.int .i64 x_48.2),some 5,[]⟩,⟨36,.rptr β1 [.sc (.int .i64 y_66)],some 6,[]⟩,⟨37,.sc (.int .i64 y_66),some 7,[]⟩,⟨38,.own 1 1 0 ([y_66] : List Int).length,some 8,[12]⟩,⟨39,.rd false x_48.1.length (x_48.1.flatMap (encI .i64)),some 9,[]⟩,⟨40,.sc (.int .i64 p_63),some 10,[]⟩,⟨41,.rd false s_67.length (s_67.flatMap (encI .i64)),some 11,[]⟩,⟨42,.own 1 1 0 l1_68.length,some 12,[]⟩,⟨43,.own 2 1 0 l2_70.length,some 13,[]⟩,⟨3,.own 2 1 0 l2_70.length,some 14,[]⟩] [⟨[1],0,3,some (30,.rd false x_48.1.length (x_48.1.flatMap (encI .i64))),[]⟩,⟨[3],0,3,some (31,.sc (.int .i64 p_63)),[]⟩,⟨[3],0,3,some (32,.sc (.int .i64 p_63)),[]⟩,⟨[4,5,6],0,3,some (33,.rdx false s_65.length (s_65.flatMap (encI .i64))),[]⟩,⟨[0],0,3,some (34,.rd β1 a0.length (a0.flatMap (encI .i64))),[]⟩,⟨[2],0,3,some (35,.sc (.int .i64 x_48.2)),[]⟩,⟨[8,9],0,3,some (36,.rptr β1 [.sc (.int .i64 y_66)]),[]⟩,⟨[10],0,3,some (37,.sc (.int .i64 y_66)),[]⟩,⟨[11],0,0,some (38,.own 1 1 0 ([y_66] : List Int).length),[1]⟩,⟨[1],0,3,some (39,.rd false x_48.1.length (x_48.1.flatMap (encI .i64))),[]⟩,⟨[3],0,3,some (40,.sc (.int .i64 p_63)),[]⟩,⟨[13,14],0,3,some (41,.rd false s_67.length (s_67.flatMap (encI .i64))),[]⟩,⟨[12,15],1,1,some (42,.own 1 1 0 l1_68.length),[1]⟩,⟨[7,16],2,2,some (43,.own 2 1 0 l2_70.length),[2]⟩,⟨[17],3,3,some (3,.own 2 1 0 l2_70.length),[]⟩] [8,12,13] [[],[(1,⟨3,true,([y_66] : List Int).flatMap (encI .i64)⟩)],[(1,⟨3,true,l1_68.flatMap (encI .i64)⟩)],[(2,⟨3,true,l2_70.flatMap (encI .i64)⟩),(1,⟨3,true,l1_68.flatMap (encI .i64)⟩)]] [[],[],[],[0,1,2],[],[],[4,5],[4,5,6],[4,5,6,7],[],[],[9,10],[4,5,6,7,8,9,10,11],[0,1,2,3,4,5,6,7,8,9,10,11,12],[0,1,2,3,4,5,6,7,8,9,10,11,12,13]] (by kernel_rfl) (by kernel_rfl) (BornL.ok (.o<| .o<| .o<| .o<| .b rfl rfl<| .b rfl rfl<| .b rfl rfl<| .b rfl rfl<| .b rfl rfl<| .b rfl rfl<| .b rfl rfl<| .b rfl rfl<| .b rfl rfl<| .b rfl rfl<| .b rfl rfl<| .b rfl rfl<| .b rfl rfl<| .b rfl rfl<| .b rfl rfl<| .n)) (BaseL.ok (.o rfl<| .o rfl<| .o rfl<| .o rfl<| .b<| .b<| .b<| .b<| .b<| .b<| .b<| .b<| .b<| .b<| .b<| .b<| .b<| .b<| .b<| .n)) rfl (by decide) (allLt rfl) (.pure rfl (fun H => .put (fun E hE => .move (lt1 rfl) (.tmp (hE.at (k := 0) rfl))))<| .pure rfl (fun H => .put (fun E hE => .move (lt1 rfl) (.tmp (hE.at (k := 0) rfl))))<| .pure rfl (fun H => .put (fun E hE => .move (lt1 rfl) (.tmp (hE.at (k := 0) rfl))))<| .pure rfl (fun H => .put (fun E hE => .slX (enc := (encI .i64)) (lt1 rfl) (.tmp (hE.at (k := 0) rfl)) Try.underlying26 sz3 (encI_len .i64) rfl (.none _ _ _) (.tmp (hE.at (k := 1) rfl)) (.tmp (hE.at (k := 2) rfl)) hs_65))<| .pure rfl (fun H => .put (fun E hE => .move (lt1 rfl) (.tmp (hE.at (k := 0) rfl))))<| .pure rfl (fun H => .put (fun E hE => .move (lt1 rfl) (.tmp (hE.at (k := 0) rfl))))<| .pure rfl (fun H => .put (fun E hE => .indexRd (enc := (encI .i64)) (lt1 rfl) (.tmp (hE.at (k := 0) rfl)) (.tmp (hE.at (k := 1) rfl)) Try.underlying26 sz3 (encI_len .i64) rfl hy_66))<| .pure rfl (fun H => .put (fun E hE => .loadR (v := .sc (.int .i64 y_66)) (lt1 rfl) (.tmp (hE.at (k := 0) rfl)) one3 rfl))<| .turn rfl rfl rfl rfl rfl (.new (fun E hE => .buildSlice (t := 1) (out := ([y_66] : List Int).flatMap (encI .i64)) (lt1 rfl) (nm rfl) (.cons (.tmp (hE.at (k := 0) rfl)) (by first | exact ⟨rfl,rfl⟩ | rfl) (.nil)) Try.underlying26 zero3 el3 (by decide) (by decide) rfl (still_all (encI_still .i64) _)) rfl)<| .pure rfl (fun H => .put (fun E hE => .move (lt1 rfl) (.tmp (hE.at (k := 0) rfl))))<| .pure rfl (fun H => .put (fun E hE => .move (lt1 rfl) (.tmp (hE.at (k := 0) rfl))))<| .pure rfl (fun H => .put (fun E hE => .slRd (enc := (encI .i64)) (lt1 rfl) (.tmp (hE.at (k := 0) rfl)) Try.underlying26 sz3 (encI_len .i64) rfl (.some (.tmp (hE.at (k := 1) rfl))) (.none _ _ _) hs_67))<| .turn rfl rfl rfl rfl rfl (.new (fun E hE => .app (enc := (encI .i64)) (lt1 rfl) (nm rfl) (.tmp (hE.at (k := 0) rfl)) (Src.rd (.tmp (hE.at (k := 1) rfl)) (flatMap_length (encI_len .i64) _) (one_all (encI_one .i64) _) (.inl rfl)) Try.underlying26 ⟨_,Try.underlying26,by intro k hk; cases hk⟩ el3 rfl (encI_len .i64) rfl rfl (by decide) hl1_68) rfl)<| .turn rfl rfl rfl rfl rfl (.new (fun E hE => .appX (t := 2) (enc := (encI .i64)) (lt1 rfl) (nm rfl) (.tmp (hE.at (k := 0) rfl)) (.inl rfl) (Src.own (.tmp (hE.at (k := 1) rfl)) rfl (lendAll (encI_len .i64) _) (flatMap_length (encI_len .i64) _) (one_all (encI_one .i64) _) (.inl rfl)) Try.underlying26 ⟨_,Try.underlying26,by intro k hk; cases hk⟩ el3 (encI_len .i64) rfl rfl (by decide) ha_69 hl2_70) rfl)<| .read rfl (.c (.put (fun E hE => .assign (lt1 rfl) (.tmp (hE.at (k := 0) rfl)))) (.n))<| .nil _) (fun E hE => .c (DInv.at hE (k := 0) rfl rfl rfl)<| .c (DInv.at hE (k := 18) rfl rfl rfl)<| .c (DInv.at hE (k := 2) rfl rfl rfl)<| .n _) rfl ?_
        refine AWP.vc (s' := ⟨[(0,.rd β1 a0.length (a0.flatMap (encI .i64))),(3,.own 2 1 0 l2_70.length),(4,.sc (.int .i64 x_48.2))],[(2,⟨3,true,l2_70.flatMap (encI .i64)⟩)]⟩) (VC.sub (.c rfl<| .c rfl<| .c rfl<| .n _) (.c rfl<| .n _)) ?_
        obtain ⟨t4_71,ht4_71,h⟩ := letS h
        refine AWP.region (.cons (.move (lt1 rfl) (.tmp rfl))<| .cons (.add (lt1 rfl) (.tmp rfl) (.const _ _ _))<| .cons (.assign (lt1 rfl) (.tmp rfl))<| ARun.nil _ _ _) ?_
        exact endJ (l2_70,t4_71) h (by subst ht4_71; exact VC.trans (VC.frz (d := 3) (t := 2) rfl rfl (encI_len .i64)) (VC.sub (.c rfl<| .c rfl<| .c rfl<| .n _) (.n _)))
      · refine AWP.vc (s' := ⟨[(0,.rd β1 a0.length (a0.flatMap (encI .i64))),(3,.rd false x_48.1.length (x_48.1.flatMap (encI .i64))),(4,.sc (.int .i64 x_48.2)),(5,.sc (.int .i64 (x_48.1.length : Int)))],[]⟩) (VC.sub (.c rfl<| .c rfl<| .c rfl<| .c rfl<| .n _) (.n _)) ?_
        refine AWP.loopM (S := fun x_58 : Int => ⟨[(0,.rd β1 a0.length (a0.flatMap (encI .i64))),(3,.rd false x_48.1.length (x_48.1.flatMap (encI .i64))),(4,.sc (.int .i64 x_48.2)),(5,.sc (.int .i64 x_58))],[]⟩) (x := (x_48.1.length : Int)) (fun nx_59 x_58 h => ?_) h
        unfold m51_L4 at h
        refine AWP.seq ?_
        refine AWP.seq ?_
        obtain ⟨y_60,hy_60,h⟩ := bindS h
        obtain ⟨y_61,hy_61,h⟩ := bindS h
        refine AWP.draw (s' := ⟨[(0,.rd β1 a0.length (a0.flatMap (encI .i64))),(3,.rd false x_48.1.length (x_48.1.flatMap (encI .i64))),(4,.sc (.int .i64 x_48.2)),(5,.sc (.int .i64 x_58)),(27,.sc (.bool ((decide ((0 : Int) < x_58)) && (decide (y_61 < y_60)))))],[]⟩) mixed [⟨0,.rd β1 a0.length (a0.flatMap (encI .i64)),none,[]⟩,⟨3,.rd false x_48.1.length (x_48.1.flatMap (encI .i64)),none,[]⟩,⟨4,.sc (.int .i64 x_48.2),none,[]⟩,⟨5,.sc (.int .i64 x_58),none,[]⟩,⟨14,.sc (.int .i64 x_58),some 0,[]⟩,⟨15,.sc (.bool (decide ((0 : Int) < x_58))),some 1,[]⟩,⟨16,.sc (.bool (decide ((0 : Int) < x_58))),some 2,[]⟩,⟨17,.gd (decide ((0 : Int) < x_58)) (.rd false x_48.1.length (x_48.1.flatMap (encI .i64))),some 3,[]⟩,⟨18,.gd (decide ((0 : Int) < x_58)) (.sc (.int .i64 x_58)),some 4,[]⟩,⟨19,.gd (decide ((0 : Int) < x_58)) (.sc (.int .i64 (IntKind.wrap .i64 (x_58 - (1 : Int))))),some 5,[]⟩,⟨20,.gd (decide ((0 : Int) < x_58)) (.rptr false [.sc (.int .i64 y_60)]),some 6,[]⟩,⟨21,.gd (decide ((0 : Int) < x_58)) (.sc (.int .i64 y_60)),some 7,[]⟩,⟨22,.gd (decide ((0 : Int) < x_58)) (.rd β1 a0.length (a0.flatMap (encI .i64))),some 8,[]⟩,⟨23,.gd (decide ((0 : Int) < x_58)) (.sc (.int .i64 x_48.2)),some 9,[]⟩,⟨24,.gd (decide ((0 : Int) < x_58)) (.rptr β1 [.sc (.int .i64 y_61)]),some 10,[]⟩,⟨25,.gd (decide ((0 : Int) < x_58)) (.sc (.int .i64 y_61)),some 11,[]⟩,⟨26,.gd (decide ((0 : Int) < x_58)) (.sc (.bool (decide (y_61 < y_60)))),some 12,[]⟩,⟨27,.sc (.bool ((decide ((0 : Int) < x_58)) && (decide (y_61 < y_60)))),some 13,[]⟩] [⟨[3],0,0,some (14,.sc (.int .i64 x_58)),[]⟩,⟨[4],0,0,some (15,.sc (.bool (decide ((0 : Int) < x_58)))),[]⟩,⟨[5],0,0,some (16,.sc (.bool (decide ((0 : Int) < x_58)))),[]⟩,⟨[6,1],0,0,some (17,.gd (decide ((0 : Int) < x_58)) (.rd false x_48.1.length (x_48.1.flatMap (encI .i64)))),[]⟩,⟨[6,3],0,0,some (18,.gd (decide ((0 : Int) < x_58)) (.sc (.int .i64 x_58))),[]⟩,⟨[6,8],0,0,some (19,.gd (decide ((0 : Int) < x_58)) (.sc (.int .i64 (IntKind.wrap .i64 (x_58 - (1 : Int)))))),[]⟩,⟨[6,7,9],0,0,some (20,.gd (decide ((0 : Int) < x_58)) (.rptr false [.sc (.int .i64 y_60)])),[]⟩,⟨[6,10],0,0,some (21,.gd (decide ((0 : Int) < x_58)) (.sc (.int .i64 y_60))),[]⟩,⟨[6,0],0,0,some (22,.gd (decide ((0 : Int) < x_58)) (.rd β1 a0.length (a0.flatMap (encI .i64)))),[]⟩,⟨[6,2],0,0,some (23,.gd (decide ((0 : Int) < x_58)) (.sc (.int .i64 x_48.2))),[]⟩,⟨[6,12,13],0,0,some (24,.gd (decide ((0 : Int) < x_58)) (.rptr β1 [.sc (.int .i64 y_61)])),[]⟩,⟨[6,14],0,0,some (25,.gd (decide ((0 : Int) < x_58)) (.sc (.int .i64 y_61))),[]⟩,⟨[6,11,15],0,0,some (26,.gd (decide ((0 : Int) < x_58)) (.sc (.bool (decide (y_61 < y_60))))),[]⟩,⟨[6,16],0,0,some (27,.sc (.bool ((decide ((0 : Int) < x_58)) && (decide (y_61 < y_60))))),[]⟩] [] [[]] [[],[0],[0,1],[0,1,2],[0,1,2],[0,1,2,4],[0,1,2,3,4,5],[0,1,2,3,4,5,6],[0,1,2],[0,1,2],[0,1,2,8,9],[0,1,2,8,9,10],[0,1,2,3,4,5,6,7,8,9,10,11],[0,1,2,3,4,5,6,7,8,9,10,11,12]] (by kernel_rfl) (by kernel_rfl) (BornL.ok (.o<| .o<| .o<| .o<| .b rfl rfl<| .b rfl rfl<| .b rfl rfl<| .b rfl rfl<| .b rfl rfl<| .b rfl rfl<| .b rfl rfl<| .b rfl rfl<| .b rfl rfl<| .b rfl rfl<| .b rfl rfl<| .b rfl rfl<| .b rfl rfl<| .b rfl rfl<| .n)) (BaseL.ok (.o rfl<| .o rfl<| .o rfl<| .o rfl<| .b<| .b<| .b<| .b<| .b<| .b<| .b<| .b<| .b<| .b<| .b<| .b<| .b<| .b<| .n)) rfl (by decide) (allLt rfl) (.pure rfl (fun H => .put (fun E hE => .move (lt1 rfl) (.tmp (hE.at (k := 0) rfl))))<| .pure rfl (fun H => .put (fun E hE => .gtr (lt1 rfl) (.tmp (hE.at (k := 0) rfl)) (.const _ _ _)))<| .pure rfl (fun H => .put (fun E hE => .move (lt1 rfl) (.tmp (hE.at (k := 0) rfl))))<| .pure rfl (fun H => .gput (b := (decide ((0 : Int) < x_58))) (want := true) (j := 2) (dj := 16) rfl (lt1 rfl) (lt1 rfl) (fun E hE => hE.at (k := 0) rfl) (fun hg E hE => .move (lt1 rfl) (.tmp (hE.at (k := 1) rfl))))<| .pure rfl (fun H => .gput (b := (decide ((0 : Int) < x_58))) (want := true) (j := 2) (dj := 16) rfl (lt1 rfl) (lt1 rfl) (fun E hE => hE.at (k := 0) rfl) (fun hg E hE => .move (lt1 rfl) (.tmp (hE.at (k := 1) rfl))))<| .pure rfl (fun H => .gput (b := (decide ((0 : Int) < x_58))) (want := true) (j := 2) (dj := 16) rfl (lt1 rfl) (lt1 rfl) (fun E hE => hE.at (k := 0) rfl) (fun hg E hE => .sub (lt1 rfl) (.gd hg (.tmp (hE.at (k := 1) rfl))) (.const _ _ _)))<| .pure rfl (fun H => .gput (b := (decide ((0 : Int) < x_58))) (want := true) (j := 2) (dj := 16) rfl (lt1 rfl) (lt1 rfl) (fun E hE => hE.at (k := 0) rfl) (fun hg E hE => .indexRd (enc := (encI .i64)) (lt1 rfl) (.gd hg (.tmp (hE.at (k := 1) rfl))) (.gd hg (.tmp (hE.at (k := 2) rfl))) Try.underlying26 sz3 (encI_len .i64) rfl (gdB hy_60 hg)))<| .pure rfl (fun H => .gput (b := (decide ((0 : Int) < x_58))) (want := true) (j := 2) (dj := 16) rfl (lt1 rfl) (lt1 rfl) (fun E hE => hE.at (k := 0) rfl) (fun hg E hE => .loadR (v := .sc (.int .i64 y_60)) (lt1 rfl) (.gd hg (.tmp (hE.at (k := 1) rfl))) one3 rfl))<| .pure rfl (fun H => .gput (b := (decide ((0 : Int) < x_58))) (want := true) (j := 2) (dj := 16) rfl (lt1 rfl) (lt1 rfl) (fun E hE => hE.at (k := 0) rfl) (fun hg E hE => .move (lt1 rfl) (.tmp (hE.at (k := 1) rfl))))<| .pure rfl (fun H => .gput (b := (decide ((0 : Int) < x_58))) (want := true) (j := 2) (dj := 16) rfl (lt1 rfl) (lt1 rfl) (fun E hE => hE.at (k := 0) rfl) (fun hg E hE => .move (lt1 rfl) (.tmp (hE.at (k := 1) rfl))))<| .pure rfl (fun H => .gput (b := (decide ((0 : Int) < x_58))) (want := true) (j := 2) (dj := 16) rfl (lt1 rfl) (lt1 rfl) (fun E hE => hE.at (k := 0) rfl) (fun hg E hE => .indexRd (enc := (encI .i64)) (lt1 rfl) (.gd hg (.tmp (hE.at (k := 1) rfl))) (.gd hg (.tmp (hE.at (k := 2) rfl))) Try.underlying26 sz3 (encI_len .i64) rfl (gdB hy_61 hg)))<| .pure rfl (fun H => .gput (b := (decide ((0 : Int) < x_58))) (want := true) (j := 2) (dj := 16) rfl (lt1 rfl) (lt1 rfl) (fun E hE => hE.at (k := 0) rfl) (fun hg E hE => .loadR (v := .sc (.int .i64 y_61)) (lt1 rfl) (.gd hg (.tmp (hE.at (k := 1) rfl))) one3 rfl))<| .pure rfl (fun H => .gput (b := (decide ((0 : Int) < x_58))) (want := true) (j := 2) (dj := 16) rfl (lt1 rfl) (lt1 rfl) (fun E hE => hE.at (k := 0) rfl) (fun hg E hE => .gtr (lt1 rfl) (.gd hg (.tmp (hE.at (k := 1) rfl))) (.gd hg (.tmp (hE.at (k := 2) rfl)))))<| .pure rfl (fun H => .put (fun E hE => .pickAnd (lt1 rfl) (.tmp (hE.at (k := 0) rfl)) (.tmp (hE.at (k := 1) rfl)) (.const _ _ _)))<| .nil _) (fun E hE => .c (DInv.at hE (k := 0) rfl rfl rfl)<| .c (DInv.at hE (k := 1) rfl rfl rfl)<| .c (DInv.at hE (k := 2) rfl rfl rfl)<| .c (DInv.at hE (k := 3) rfl rfl rfl)<| .c (DInv.at hE (k := 17) rfl rfl rfl)<| .n _) rfl ?_
        refine AWP.vc (s' := ⟨[(0,.rd β1 a0.length (a0.flatMap (encI .i64))),(3,.rd false x_48.1.length (x_48.1.flatMap (encI .i64))),(4,.sc (.int .i64 x_48.2)),(5,.sc (.int .i64 x_58)),(27,.sc (.bool ((decide ((0 : Int) < x_58)) && (decide (y_61 < y_60)))))],[]⟩) (VC.sub (.c rfl<| .c rfl<| .c rfl<| .c rfl<| .c rfl<| .n _) (.n _)) ?_
        refine AWP.cond (.tmp rfl) (fun hc => ?_) (fun hc => ?_)
        · have h := iteT hc h
          refine AWP.skip ?_
          refine AWP.block ?_
          obtain ⟨t5_62,ht5_62,h⟩ := letS h
          refine AWP.region (.cons (.move (lt1 rfl) (.tmp rfl))<| .cons (.sub (lt1 rfl) (.tmp rfl) (.const _ _ _))<| .cons (.assign (lt1 rfl) (.tmp rfl))<| ARun.nil _ _ _) ?_
          exact endJ t5_62 h (by subst ht5_62; exact VC.sub (.c rfl<| .c rfl<| .c rfl<| .c rfl<| .n _) (.n _))
        · have h := iteF hc h
          refine AWP.exit ?_
          exact endJ x_58 h (VC.sub (.c rfl<| .c rfl<| .c rfl<| .c rfl<| .n _) (.n _))
    · have h := iteF hc h
      refine AWP.exit ?_
      exact endJ x_48.1 h (VC.sub (.c rfl<| .n _) (.n _))
theorem c36 {β1 : Bool} {β2 : Bool} (n : Nat) (a0 : R59) {r : R64} (h : m36 n a0 = some r) : Spec Try.prog 36 [] [.agg [.rd β1 a0.Jobs.length (a0.Jobs.flatMap encR38),.rd β2 a0.Done.length (a0.Done.flatMap (encI .i64)),.sc (.bool a0.Most),.sc (.int .i64 a0.Bound)]] [] (.agg [.rd false r.Jobs.length (r.Jobs.flatMap encR38),.rd β2 r.Done.length (r.Done.flatMap (encI .i64)),.sc (.bool r.Most),.sc (.int .i64 r.Bound)]) [] := by
  refine Spec.of (fn := Try.f36) Try.func36 Try.ntmps36 rfl rfl (le1 rfl) (fun w0 Zs Zb T0 ι0 => ?_)
  unfold m36 at h
  refine AWP.seq ?_
  refine AWP.region (.cons (.box (t := 1) (n := 4) (lt1 rfl) (nm rfl) (.tmp rfl) (by first | exact ⟨rfl,rfl⟩ | rfl) rfl)<| .cons (.alloc (t := 2) (k := ⟨65,false,[.sc (.slice none 0 0),.sc (.slice none 0 0),.sc (.bool false),.sc (.int .i64 (0 : Int))]⟩) (lt1 rfl) (nm rfl) zero65 rfl rfl)<| ARun.nil _ _ _) ?_
  refine AWP.vc (s' := ⟨[(1,.ptr 1 0),(2,.ptr 2 0)],[(2,⟨65,false,[.sc (.slice none 0 0),.sc (.slice none 0 0),.sc (.bool false),.sc (.int .i64 (0 : Int))]⟩),(1,⟨60,false,[.rd β1 a0.Jobs.length (a0.Jobs.flatMap encR38),.rd β2 a0.Done.length (a0.Done.flatMap (encI .i64)),.sc (.bool a0.Most),.sc (.int .i64 a0.Bound)]⟩)]⟩) (VC.sub (.c rfl<| .c rfl<| .n _) (.c rfl<| .c rfl<| .n _)) ?_
  refine AWP.seq ?_
  obtain ⟨y_1,hy_1,h⟩ := bindS h
  refine AWP.draw (s' := ⟨[(2,.ptr 2 0)],[(2,⟨65,false,[.rd false y_1.length (y_1.flatMap encR38),.rd β2 a0.Done.length (a0.Done.flatMap (encI .i64)),.sc (.bool a0.Most),.sc (.int .i64 a0.Bound)]⟩),(1,⟨60,false,[.rd β1 a0.Jobs.length (a0.Jobs.flatMap encR38),.rd β2 a0.Done.length (a0.Done.flatMap (encI .i64)),.sc (.bool a0.Most),.sc (.int .i64 a0.Bound)]⟩)]⟩) mixed [⟨1,.ptr 1 0,none,[]⟩,⟨2,.ptr 2 0,none,[]⟩,⟨3,.ptr 1 (0 + 0),some 0,[]⟩,⟨4,.rd β1 a0.Jobs.length (a0.Jobs.flatMap encR38),some 1,[]⟩,⟨5,.rd false y_1.length (y_1.flatMap encR38),some 2,[]⟩,⟨6,.ptr 1 (0 + 1),some 3,[]⟩,⟨7,.rd β2 a0.Done.length (a0.Done.flatMap (encI .i64)),some 4,[]⟩,⟨8,.ptr 1 (0 + 2),some 5,[]⟩,⟨9,.sc (.bool a0.Most),some 6,[]⟩,⟨10,.ptr 1 (0 + 3),some 7,[]⟩,⟨11,.sc (.int .i64 a0.Bound),some 8,[]⟩,⟨12,.agg [.rd false y_1.length (y_1.flatMap encR38),.rd β2 a0.Done.length (a0.Done.flatMap (encI .i64)),.sc (.bool a0.Most),.sc (.int .i64 a0.Bound)],some 9,[]⟩] [⟨[0],0,0,some (3,.ptr 1 (0 + 0)),[]⟩,⟨[2],0,0,some (4,.rd β1 a0.Jobs.length (a0.Jobs.flatMap encR38)),[]⟩,⟨[3],0,1,some (5,.rd false y_1.length (y_1.flatMap encR38)),[]⟩,⟨[0],0,0,some (6,.ptr 1 (0 + 1)),[]⟩,⟨[5],0,0,some (7,.rd β2 a0.Done.length (a0.Done.flatMap (encI .i64))),[]⟩,⟨[0],0,0,some (8,.ptr 1 (0 + 2)),[]⟩,⟨[7],0,0,some (9,.sc (.bool a0.Most)),[]⟩,⟨[0],0,0,some (10,.ptr 1 (0 + 3)),[]⟩,⟨[9],0,0,some (11,.sc (.int .i64 a0.Bound)),[]⟩,⟨[4,6,8,10],0,1,some (12,.agg [.rd false y_1.length (y_1.flatMap encR38),.rd β2 a0.Done.length (a0.Done.flatMap (encI .i64)),.sc (.bool a0.Most),.sc (.int .i64 a0.Bound)]),[]⟩,⟨[1,11],0,0,none,[]⟩] [10] [[(2,⟨65,false,[.sc (.slice none 0 0),.sc (.slice none 0 0),.sc (.bool false),.sc (.int .i64 (0 : Int))]⟩),(1,⟨60,false,[.rd β1 a0.Jobs.length (a0.Jobs.flatMap encR38),.rd β2 a0.Done.length (a0.Done.flatMap (encI .i64)),.sc (.bool a0.Most),.sc (.int .i64 a0.Bound)]⟩)],[(2,⟨65,false,[.rd false y_1.length (y_1.flatMap encR38),.rd β2 a0.Done.length (a0.Done.flatMap (encI .i64)),.sc (.bool a0.Most),.sc (.int .i64 a0.Bound)]⟩),(1,⟨60,false,[.rd β1 a0.Jobs.length (a0.Jobs.flatMap encR38),.rd β2 a0.Done.length (a0.Done.flatMap (encI .i64)),.sc (.bool a0.Most),.sc (.int .i64 a0.Bound)]⟩)]] [[],[0],[0,1],[],[3],[],[5],[],[7],[0,1,2,3,4,5,6,7,8],[0,1,2,3,4,5,6,7,8,9]] (by kernel_rfl) (by kernel_rfl) (BornL.ok (.o<| .o<| .b rfl rfl<| .b rfl rfl<| .b rfl rfl<| .b rfl rfl<| .b rfl rfl<| .b rfl rfl<| .b rfl rfl<| .b rfl rfl<| .b rfl rfl<| .b rfl rfl<| .n)) (BaseL.ok (.o rfl<| .o rfl<| .b<| .b<| .b<| .b<| .b<| .b<| .b<| .b<| .b<| .b<| .n)) rfl (by decide) (allLt rfl) (.read rfl (.c (.put (fun E hE => .fieldP (lt1 rfl) (.tmp (hE.at (k := 0) rfl)) fld60_0)) (.n))<| .read rfl (.c (.put (fun E hE => .loadP (lt1 rfl) (.tmp (hE.at (k := 0) rfl)) one22 rfl rfl rfl)) (.n))<| .pure rfl (fun H => .put (fun E hE => .call0 (bw := false) (lt1 rfl) (c13 (β1 := β1) n a0.Jobs hy_1) (.cons (.tmp (hE.at (k := 0) rfl)) (.ren rfl) (.nil)) rfl))<| .read rfl (.c (.put (fun E hE => .fieldP (lt1 rfl) (.tmp (hE.at (k := 0) rfl)) fld60_1)) (.n))<| .read rfl (.c (.put (fun E hE => .loadP (lt1 rfl) (.tmp (hE.at (k := 0) rfl)) one26 rfl rfl rfl)) (.n))<| .read rfl (.c (.put (fun E hE => .fieldP (lt1 rfl) (.tmp (hE.at (k := 0) rfl)) fld60_2)) (.n))<| .read rfl (.c (.put (fun E hE => .loadP (lt1 rfl) (.tmp (hE.at (k := 0) rfl)) one4 rfl rfl rfl)) (.n))<| .read rfl (.c (.put (fun E hE => .fieldP (lt1 rfl) (.tmp (hE.at (k := 0) rfl)) fld60_3)) (.n))<| .read rfl (.c (.put (fun E hE => .loadP (lt1 rfl) (.tmp (hE.at (k := 0) rfl)) one3 rfl rfl rfl)) (.n))<| .pure rfl (fun H => .put (fun E hE => .buildO (offs := [(0,1),(1,1),(2,1),(3,1)]) (lt1 rfl) (.cons (.tmp (hE.at (k := 0) rfl)) (by first | exact ⟨rfl,rfl⟩ | rfl) (.cons (.tmp (hE.at (k := 1) rfl)) (by first | exact ⟨rfl,rfl⟩ | rfl) (.cons (.tmp (hE.at (k := 2) rfl)) (by first | exact ⟨rfl,rfl⟩ | rfl) (.cons (.tmp (hE.at (k := 3) rfl)) (by first | exact ⟨rfl,rfl⟩ | rfl) (.nil))))) zero65 offs65 rfl))<| .turn rfl rfl rfl rfl rfl (.store (fun E hE => .storePA (.tmp (hE.at (k := 0) rfl)) (.tmp (hE.at (k := 1) rfl)) sz65 rfl rfl (le1 rfl) (one_lit rfl) (by intro h; cases h) rfl) rfl)<| .nil _) (fun E hE => .c (DInv.at hE (k := 1) rfl rfl rfl)<| .n _) rfl ?_
  refine AWP.ret ?_
  obtain rfl := Option.some.inj h
  refine retJ (Res.vc (s' := ⟨[(2,.ptr 2 0)],[(2,⟨65,false,[.rd false y_1.length (y_1.flatMap encR38),.rd β2 a0.Done.length (a0.Done.flatMap (encI .i64)),.sc (.bool a0.Most),.sc (.int .i64 a0.Bound)]⟩)]⟩) (VC.sub (.c rfl<| .n _) (.c rfl<| .n _)) ?_)
  refine Res.drop (H := [(2,⟨65,false,[.rd false y_1.length (y_1.flatMap encR38),.rd β2 a0.Done.length (a0.Done.flatMap (encI .i64)),.sc (.bool a0.Most),.sc (.int .i64 a0.Bound)]⟩)]) rfl ?_
  exact Res.of rfl (.cons (.cell rfl agg65 rfl rfl rfl rfl) (.nil)) rfl rfl
theorem c52 {β1 : Bool} {β2 : Bool} (n : Nat) (a0 : R64) {r : Bool} (h : m52 n a0 = some r) : Spec Try.prog 52 [] [.agg [.rd β1 a0.Jobs.length (a0.Jobs.flatMap encR38),.rd β2 a0.Done.length (a0.Done.flatMap (encI .i64)),.sc (.bool a0.Most),.sc (.int .i64 a0.Bound)]] [] (.sc (.bool r)) [] := by
  refine Spec.of (fn := Try.f52) Try.func52 Try.ntmps52 rfl rfl (le1 rfl) (fun w0 Zs Zb T0 ι0 => ?_)
  unfold m52 at h
  refine AWP.seq ?_
  refine AWP.region (.cons (.box (t := 1) (n := 4) (lt1 rfl) (nm rfl) (.tmp rfl) (by first | exact ⟨rfl,rfl⟩ | rfl) rfl)<| .cons (.assign (lt1 rfl) (.const _ _ _))<| ARun.nil _ _ _) ?_
  refine AWP.vc (s' := ⟨[(1,.ptr 1 0)],[(1,⟨65,false,[.rd β1 a0.Jobs.length (a0.Jobs.flatMap encR38),.rd β2 a0.Done.length (a0.Done.flatMap (encI .i64)),.sc (.bool a0.Most),.sc (.int .i64 a0.Bound)]⟩)]⟩) (VC.sub (.c rfl<| .n _) (.c rfl<| .n _)) ?_
  refine AWP.seq ?_
  obtain ⟨y_1,hy_1,h⟩ := bindS h
  obtain ⟨y_2,hy_2,h⟩ := bindS h
  refine AWP.region (.cons (.fieldP (lt1 rfl) (.tmp rfl) fld65_0)<| .cons (.loadP (lt1 rfl) (.tmp rfl) one30 rfl rfl rfl)<| .cons (.call0 (bw := false) (lt1 rfl) (c28 (β1 := β1) n a0.Jobs hy_1) (.cons (.tmp rfl) (.ren rfl) (.nil)) rfl)<| .cons (.move (lt1 rfl) (.tmp rfl))<| .guard (j := 3) (dj := 6) rfl (lt1 rfl) rfl (lt1 rfl) (fun hg => .fieldP (lt1 rfl) (.tmp rfl) fld65_0)<| .guard (j := 3) (dj := 6) rfl (lt1 rfl) rfl (lt1 rfl) (fun hg => .loadP (lt1 rfl) (.gd hg (.tmp rfl)) one30 rfl rfl rfl)<| .guard (j := 3) (dj := 6) rfl (lt1 rfl) rfl (lt1 rfl) (fun hg => .lenRd (lt1 rfl) (.gd hg (.tmp rfl)) Try.underlying30)<| .guard (j := 3) (dj := 6) rfl (lt1 rfl) rfl (lt1 rfl) (fun hg => .gtr (lt1 rfl) (.gd hg (.tmp rfl)) (.const _ _ _))<| .cons (.pickAnd (lt1 rfl) (.tmp rfl) (.tmp rfl) (.const _ _ _))<| .cons (.move (lt1 rfl) (.tmp rfl))<| .guard (j := 9) (dj := 12) rfl (lt1 rfl) rfl (lt1 rfl) (fun hg => .fieldP (lt1 rfl) (.tmp rfl) fld65_0)<| .guard (j := 9) (dj := 12) rfl (lt1 rfl) rfl (lt1 rfl) (fun hg => .loadP (lt1 rfl) (.gd hg (.tmp rfl)) one30 rfl rfl rfl)<| .guard (j := 9) (dj := 12) rfl (lt1 rfl) rfl (lt1 rfl) (fun hg => .fieldP (lt1 rfl) (.tmp rfl) fld65_1)<| .guard (j := 9) (dj := 12) rfl (lt1 rfl) rfl (lt1 rfl) (fun hg => .loadP (lt1 rfl) (.gd hg (.tmp rfl)) one26 rfl rfl rfl)<| .guard (j := 9) (dj := 12) rfl (lt1 rfl) rfl (lt1 rfl) (fun hg => .call0 (bw := false) (lt1 rfl) (c59 (β1 := β1) (β2 := β2) n a0.Jobs a0.Done (gdB hy_2 hg)) (.cons (.gd hg (.tmp rfl)) (.ren rfl) (.cons (.gd hg (.tmp rfl)) (.ren rfl) (.nil))) rfl)<| .cons (.pickAnd (lt1 rfl) (.tmp rfl) (.tmp rfl) (.const _ _ _))<| .cons (.move (lt1 rfl) (.tmp rfl))<| .guard (j := 16) (dj := 19) rfl (lt1 rfl) rfl (lt1 rfl) (fun hg => .fieldP (lt1 rfl) (.tmp rfl) fld65_3)<| .guard (j := 16) (dj := 19) rfl (lt1 rfl) rfl (lt1 rfl) (fun hg => .loadP (lt1 rfl) (.gd hg (.tmp rfl)) one3 rfl rfl rfl)<| .guard (j := 16) (dj := 19) rfl (lt1 rfl) rfl (lt1 rfl) (fun hg => .geq (lt1 rfl) (.gd hg (.tmp rfl)) (.const _ _ _))<| .cons (.pickAnd (lt1 rfl) (.tmp rfl) (.tmp rfl) (.const _ _ _))<| .cons (.move (lt1 rfl) (.tmp rfl))<| .guard (j := 21) (dj := 24) rfl (lt1 rfl) rfl (lt1 rfl) (fun hg => .fieldP (lt1 rfl) (.tmp rfl) fld65_3)<| .guard (j := 21) (dj := 24) rfl (lt1 rfl) rfl (lt1 rfl) (fun hg => .loadP (lt1 rfl) (.gd hg (.tmp rfl)) one3 rfl rfl rfl)<| .guard (j := 21) (dj := 24) rfl (lt1 rfl) rfl (lt1 rfl) (fun hg => .leq (lt1 rfl) (.gd hg (.tmp rfl)) (.const _ _ _))<| .cons (.pickAnd (lt1 rfl) (.tmp rfl) (.tmp rfl) (.const _ _ _))<| .cons (.assign (lt1 rfl) (.tmp rfl))<| ARun.nil _ _ _) ?_
  refine AWP.ret ?_
  obtain rfl := Option.some.inj h
  refine retJ (Res.vc (s' := ⟨[(2,.sc (.bool ((((y_1 && (decide ((0 : Int) < (a0.Jobs.length : Int)))) && y_2) && (decide ((-1073741824 : Int) ≤ a0.Bound))) && (decide (a0.Bound ≤ (1073741824 : Int))))))],[]⟩) (VC.sub (.c rfl<| .n _) (.n _)) ?_)
  refine Res.drop (H := []) rfl ?_
  exact Res.of rfl (.cons (.tmp rfl) (.nil)) rfl rfl
theorem c54o {β1 : Bool} (n : Nat) (a0 : (List Int)) {r : (List Int)} (h : m54o n a0 = some r) : Spec Try.prog 54 [] [.rd β1 a0.length (a0.flatMap (encI .i64))] [] (.own 1 1 0 r.length) [(1,⟨3,true,r.flatMap (encI .i64)⟩)] := by
  refine Spec.of (fn := Try.f54) Try.func54 Try.ntmps54 rfl rfl (le1 rfl) (fun w0 Zs Zb T0 ι0 => ?_)
  unfold m54o at h
  refine AWP.seq ?_
  refine AWP.region (.cons (.assign (lt1 rfl) (.const _ _ _))<| ARun.nil _ _ _) ?_
  refine AWP.vc (s' := ⟨[(0,.rd β1 a0.length (a0.flatMap (encI .i64)))],[]⟩) (VC.sub (.c rfl<| .n _) (.n _)) ?_
  refine AWP.seq ?_
  refine AWP.seq ?_
  refine AWP.regionE (S := fun q_1 => ⟨[(0,.rd β1 a0.length (a0.flatMap (encI .i64))),(4,.sc (.bool (decide (a0.length = 0 ∧ q_1 = 0))))],[]⟩) (.cons (.move (lt1 rfl) (.tmp rfl))<| .consE (AStepE.eqNil0 (lt1 rfl) (.tmp rfl) Try.underlying26)<| fun q_1 => ARunE.nilV q_1 (VC.sub (.c rfl<| .c rfl<| .n _) (.n _))) (fun q_1 => ?_)
  refine AWP.cond (.tmp rfl) (fun hc => ?_) (fun hc => ?_)
  · have h := cloneNil hc h
    refine AWP.seq ?_
    refine AWP.region (.cons (.assign (lt1 rfl) (.const _ _ _))<| ARun.nil _ _ _) ?_
    refine AWP.ret ?_
    obtain rfl := Option.some.inj h
    refine retJ (Res.vc (s' := ⟨[(2,.own 1 1 0 ([] : List Int).length)],[(1,⟨3,true,([] : List Int).flatMap (encI .i64)⟩)]⟩) (VC.trans (VC.nilOwn (d := 2) (t := 1) (sz := 1) (E := 3) rfl (nm rfl)) (VC.sub (.c rfl<| .n _) (.c rfl<| .n _))) ?_)
    refine Res.sub (H := [(1,⟨3,true,([] : List Int).flatMap (encI .i64)⟩)]) (.c rfl<| .n _) ?_
    exact Res.of rfl (.cons (.tmp rfl) (.nil)) rfl rfl
  · refine AWP.skip ?_
    refine AWP.seq ?_
    obtain ⟨l1_2,hl1_2,h⟩ := bindS h
    refine AWP.region (.cons (.buildSlice (t := 1) (out := ([] : List Int).flatMap (encI .i64)) (lt1 rfl) (nm rfl) (.nil) Try.underlying26 zero3 el3 (by decide) (by decide) rfl (still_all (encI_still .i64) _))<| .cons (.move (lt1 rfl) (.tmp rfl))<| .cons (.app (enc := (encI .i64)) (lt1 rfl) (nm rfl) (.tmp rfl) (Src.rd (.tmp rfl) (flatMap_length (encI_len .i64) _) (one_all (encI_one .i64) _) (.inr (scal_all (encI_scal .i64) _))) Try.underlying26 ⟨_,Try.underlying26,by intro k hk; cases hk⟩ el3 rfl (encI_len .i64) rfl rfl (by decide) hl1_2)<| .cons (.assign (lt1 rfl) (.tmp rfl))<| ARun.nil _ _ _) ?_
    refine AWP.ret ?_
    obtain rfl := Option.some.inj h
    refine retJ (Res.vc (s' := ⟨[(2,.own 1 1 0 l1_2.length)],[(1,⟨3,true,l1_2.flatMap (encI .i64)⟩)]⟩) (VC.sub (.c rfl<| .n _) (.c rfl<| .n _)) ?_)
    refine Res.sub (H := [(1,⟨3,true,l1_2.flatMap (encI .i64)⟩)]) (.c rfl<| .n _) ?_
    exact Res.of rfl (.cons (.tmp rfl) (.nil)) rfl rfl
theorem c35 {β2 : Bool} (n : Nat) (a0 : R64) (a1 : Int) {r : ((List R64) × Bool)} (h : m35 n a0 a1 = some r) : Spec Try.prog 35 [] [.agg [.rd false a0.Jobs.length (a0.Jobs.flatMap encR38),.rd β2 a0.Done.length (a0.Done.flatMap (encI .i64)),.sc (.bool a0.Most),.sc (.int .i64 a0.Bound)],.sc (.int .i64 a1)] [] (.tup [.rd false r.1.length (r.1.flatMap encR64),.sc (.bool r.2)]) [] := by
  refine Spec.of (fn := Try.f35) Try.func35 Try.ntmps35 rfl rfl (le1 rfl) (fun w0 Zs Zb T0 ι0 => ?_)
  unfold m35 at h
  refine AWP.seq ?_
  refine AWP.region (.cons (.box (t := 1) (n := 4) (lt1 rfl) (nm rfl) (.tmp rfl) (by first | exact ⟨rfl,rfl⟩ | rfl) rfl)<| .cons (.assign (lt1 rfl) (.const _ _ _))<| .cons (.assign (lt1 rfl) (.const _ _ _))<| ARun.nil _ _ _) ?_
  refine AWP.vc (s' := ⟨[(1,.sc (.int .i64 a1)),(2,.ptr 1 0)],[(1,⟨65,false,[.rd false a0.Jobs.length (a0.Jobs.flatMap encR38),.rd β2 a0.Done.length (a0.Done.flatMap (encI .i64)),.sc (.bool a0.Most),.sc (.int .i64 a0.Bound)]⟩)]⟩) (VC.sub (.c rfl<| .c rfl<| .n _) (.c rfl<| .n _)) ?_
  refine AWP.seq ?_
  refine AWP.seq ?_
  obtain ⟨y_1,hy_1,h⟩ := bindS h
  refine AWP.region (.cons (.move (lt1 rfl) (.tmp rfl))<| .cons (.neq (lt1 rfl) (.tmp rfl) (.const _ _ _))<| .cons (.move (lt1 rfl) (.tmp rfl))<| .guard (j := 2) (dj := 10) rfl (lt1 rfl) rfl (lt1 rfl) (fun hg => .loadPA (lt1 rfl) (.tmp rfl) agg65 rfl rfl rfl rfl)<| .guard (j := 2) (dj := 10) rfl (lt1 rfl) rfl (lt1 rfl) (fun hg => .call0 (bw := false) (lt1 rfl) (c52 (β1 := false) (β2 := β2) n (R64.mk a0.Jobs a0.Done a0.Most a0.Bound) (gdB hy_1 hg)) (.cons (.gd hg (.tmp rfl)) (.ren rfl) (.nil)) rfl)<| .guard (j := 2) (dj := 10) rfl (lt1 rfl) rfl (lt1 rfl) (fun hg => .not (lt1 rfl) (.gd hg (.tmp rfl)))<| .cons (.pickOr (lt1 rfl) (.tmp rfl) (.const _ _ _) (.tmp rfl))<| .cons (.move (lt1 rfl) (.tmp rfl))<| .guard (j := 7) (dj := 15) rfl (lt1 rfl) rfl (lt1 rfl) (fun hg => .fieldP (lt1 rfl) (.tmp rfl) fld65_1)<| .guard (j := 7) (dj := 15) rfl (lt1 rfl) rfl (lt1 rfl) (fun hg => .loadP (lt1 rfl) (.gd hg (.tmp rfl)) one26 rfl rfl rfl)<| .guard (j := 7) (dj := 15) rfl (lt1 rfl) rfl (lt1 rfl) (fun hg => .lenRd (lt1 rfl) (.gd hg (.tmp rfl)) Try.underlying26)<| .guard (j := 7) (dj := 15) rfl (lt1 rfl) rfl (lt1 rfl) (fun hg => .fieldP (lt1 rfl) (.tmp rfl) fld65_0)<| .guard (j := 7) (dj := 15) rfl (lt1 rfl) rfl (lt1 rfl) (fun hg => .loadP (lt1 rfl) (.gd hg (.tmp rfl)) one30 rfl rfl rfl)<| .guard (j := 7) (dj := 15) rfl (lt1 rfl) rfl (lt1 rfl) (fun hg => .lenRd (lt1 rfl) (.gd hg (.tmp rfl)) Try.underlying30)<| .guard (j := 7) (dj := 15) rfl (lt1 rfl) rfl (lt1 rfl) (fun hg => .eql (lt1 rfl) (.gd hg (.tmp rfl)) (.gd hg (.tmp rfl)))<| .cons (.pickOr (lt1 rfl) (.tmp rfl) (.const _ _ _) (.tmp rfl))<| ARun.nil _ _ _) ?_
  refine AWP.vc (s' := ⟨[(2,.ptr 1 0),(23,.sc (.bool (((!decide (a1 = (0 : Int))) || (!y_1)) || (decide ((a0.Done.length : Int) = (a0.Jobs.length : Int))))))],[(1,⟨65,false,[.rd false a0.Jobs.length (a0.Jobs.flatMap encR38),.rd β2 a0.Done.length (a0.Done.flatMap (encI .i64)),.sc (.bool a0.Most),.sc (.int .i64 a0.Bound)]⟩)]⟩) (VC.sub (.c rfl<| .c rfl<| .n _) (.c rfl<| .n _)) ?_
  refine AWP.cond (.tmp rfl) (fun hc => ?_) (fun hc => ?_)
  · have h := iteT hc h
    refine AWP.seq ?_
    refine AWP.region (.cons (.assign (lt1 rfl) (.const _ _ _))<| .cons (.assign (lt1 rfl) (.const _ _ _))<| ARun.nil _ _ _) ?_
    refine AWP.ret ?_
    obtain rfl := Option.some.inj h
    refine retJ (Res.vc (s' := ⟨[(4,.rd false ([] : List R64).length (([] : List R64).flatMap encR64)),(5,.sc (.bool false))],[]⟩) (VC.trans (VC.nilRd (d := 4) false rfl) (VC.sub (.c rfl<| .c rfl<| .n _) (.n _))) ?_)
    refine Res.drop (H := []) rfl ?_
    exact Res.of rfl (.cons (.tmp rfl) (.cons (.tmp rfl) (.nil))) rfl rfl
  · have h := iteF hc h
    refine AWP.skip ?_
    refine AWP.seq ?_
    refine AWP.region (.cons (.assign (lt1 rfl) (.const _ _ _))<| ARun.nil _ _ _) ?_
    refine AWP.vc (s' := ⟨[(2,.ptr 1 0),(6,.sc (.slice none 0 0))],[(1,⟨65,false,[.rd false a0.Jobs.length (a0.Jobs.flatMap encR38),.rd β2 a0.Done.length (a0.Done.flatMap (encI .i64)),.sc (.bool a0.Most),.sc (.int .i64 a0.Bound)]⟩)]⟩) (VC.sub (.c rfl<| .c rfl<| .n _) (.c rfl<| .n _)) ?_
    refine AWP.seq ?_
    refine AWP.seq ?_
    refine AWP.region (.cons (.fieldP (lt1 rfl) (.tmp rfl) fld65_0)<| .cons (.loadP (lt1 rfl) (.tmp rfl) one30 rfl rfl rfl)<| .cons (.lenRd (lt1 rfl) (.tmp rfl) Try.underlying30)<| .cons (.move (lt1 rfl) (.const _ _ _))<| ARun.nil _ _ _) ?_
    refine AWP.vc (s' := ⟨[(2,.ptr 1 0),(6,.sc (.slice none 0 0)),(26,.sc (.int .i64 (a0.Jobs.length : Int))),(27,.sc (.int .i64 (0 : Int)))],[(1,⟨65,false,[.rd false a0.Jobs.length (a0.Jobs.flatMap encR38),.rd β2 a0.Done.length (a0.Done.flatMap (encI .i64)),.sc (.bool a0.Most),.sc (.int .i64 a0.Bound)]⟩)]⟩) (VC.sub (.c rfl<| .c rfl<| .c rfl<| .c rfl<| .n _) (.c rfl<| .n _)) ?_
    refine AWP.joinB' (S := fun p_27 : (List R64) => ⟨[(6,.own 2 4 0 p_27.length)],[(2,⟨65,true,p_27.flatMap encR64⟩)]⟩) h (fun p_27 h => ?_) (fun k_28 h => ?_)
    · refine AWP.seq ?_
      refine AWP.region (.cons (.move (lt1 rfl) (.tmp rfl))<| .cons (.assign (lt1 rfl) (.tmp rfl))<| .cons (.assign (lt1 rfl) (.const _ _ _))<| ARun.nil _ _ _) ?_
      refine AWP.ret ?_
      obtain rfl := Option.some.inj h
      refine retJ (Res.vc (s' := ⟨[(4,.rd false p_27.length (p_27.flatMap encR64)),(5,.sc (.bool true))],[]⟩) (VC.trans (VC.frz (d := 4) (t := 2) rfl rfl encR64_len) (VC.sub (.c rfl<| .c rfl<| .n _) (.n _))) ?_)
      refine Res.drop (H := []) rfl ?_
      exact Res.of rfl (.cons (.tmp rfl) (.cons (.tmp rfl) (.nil))) rfl rfl
    · refine AWP.vc (VC.nilOwn (d := 6) (t := 2) (sz := 4) (E := 65) rfl (nm rfl)) ?_
      refine AWP.vc (s' := ⟨[(2,.ptr 1 0),(6,.own 2 4 0 ([] : List R64).length),(26,.sc (.int .i64 (a0.Jobs.length : Int))),(27,.sc (.int .i64 (0 : Int)))],[(1,⟨65,false,[.rd false a0.Jobs.length (a0.Jobs.flatMap encR38),.rd β2 a0.Done.length (a0.Done.flatMap (encI .i64)),.sc (.bool a0.Most),.sc (.int .i64 a0.Bound)]⟩),(2,⟨65,true,([] : List R64).flatMap encR64⟩)]⟩) (VC.sub (.c rfl<| .c rfl<| .c rfl<| .c rfl<| .n _) (.c rfl<| .c rfl<| .n _)) ?_
      refine AWP.loopM (S := fun x_18 : Int × (List R64) => ⟨[(2,.ptr 1 0),(6,.own 2 4 0 x_18.2.length),(26,.sc (.int .i64 (a0.Jobs.length : Int))),(27,.sc (.int .i64 x_18.1))],[(1,⟨65,false,[.rd false a0.Jobs.length (a0.Jobs.flatMap encR38),.rd β2 a0.Done.length (a0.Done.flatMap (encI .i64)),.sc (.bool a0.Most),.sc (.int .i64 a0.Bound)]⟩),(2,⟨65,true,x_18.2.flatMap encR64⟩)]⟩) (x := ((0 : Int),([] : List R64))) (fun nx_19 x_18 h => ?_) h
      unfold m35_L1 at h
      refine AWP.seq ?_
      refine AWP.region (.cons (.lss (lt1 rfl) (.tmp rfl) (.tmp rfl))<| ARun.nil _ _ _) ?_
      refine AWP.vc (s' := ⟨[(2,.ptr 1 0),(6,.own 2 4 0 x_18.2.length),(26,.sc (.int .i64 (a0.Jobs.length : Int))),(27,.sc (.int .i64 x_18.1)),(28,.sc (.bool (decide (x_18.1 < (a0.Jobs.length : Int)))))],[(1,⟨65,false,[.rd false a0.Jobs.length (a0.Jobs.flatMap encR38),.rd β2 a0.Done.length (a0.Done.flatMap (encI .i64)),.sc (.bool a0.Most),.sc (.int .i64 a0.Bound)]⟩),(2,⟨65,true,x_18.2.flatMap encR64⟩)]⟩) (VC.sub (.c rfl<| .c rfl<| .c rfl<| .c rfl<| .c rfl<| .n _) (.c rfl<| .c rfl<| .n _)) ?_
      refine AWP.seq ?_
      refine AWP.cond (.tmp rfl) (fun hc => ?_) (fun hc => ?_)
      · have h := iteT hc h
        refine AWP.skip ?_
        refine AWP.seq ?_
        refine AWP.block ?_
        refine AWP.seq ?_
        refine AWP.region (.cons (.move (lt1 rfl) (.tmp rfl))<| .cons (.assign (lt1 rfl) (.tmp rfl))<| ARun.nil _ _ _) ?_
        refine AWP.vc (s' := ⟨[(2,.ptr 1 0),(6,.own 2 4 0 x_18.2.length),(26,.sc (.int .i64 (a0.Jobs.length : Int))),(27,.sc (.int .i64 x_18.1)),(7,.sc (.int .i64 x_18.1))],[(1,⟨65,false,[.rd false a0.Jobs.length (a0.Jobs.flatMap encR38),.rd β2 a0.Done.length (a0.Done.flatMap (encI .i64)),.sc (.bool a0.Most),.sc (.int .i64 a0.Bound)]⟩),(2,⟨65,true,x_18.2.flatMap encR64⟩)]⟩) (VC.sub (.c rfl<| .c rfl<| .c rfl<| .c rfl<| .c rfl<| .n _) (.c rfl<| .c rfl<| .n _)) ?_
        refine AWP.seq ?_
        obtain ⟨y_20,hy_20,h⟩ := bindS h
        refine AWP.region (.cons (.fieldP (lt1 rfl) (.tmp rfl) fld65_1)<| .cons (.loadP (lt1 rfl) (.tmp rfl) one26 rfl rfl rfl)<| .cons (.move (lt1 rfl) (.tmp rfl))<| .cons (.call0 (bw := false) (lt1 rfl) (c53 (β1 := β2) n a0.Done x_18.1 hy_20) (.cons (.tmp rfl) (.ren rfl) (.cons (.tmp rfl) (.ren rfl) (.nil))) rfl)<| .cons (.not (lt1 rfl) (.tmp rfl))<| ARun.nil _ _ _) ?_
        refine AWP.vc (s' := ⟨[(2,.ptr 1 0),(6,.own 2 4 0 x_18.2.length),(26,.sc (.int .i64 (a0.Jobs.length : Int))),(27,.sc (.int .i64 x_18.1)),(7,.sc (.int .i64 x_18.1)),(34,.sc (.bool (!y_20)))],[(1,⟨65,false,[.rd false a0.Jobs.length (a0.Jobs.flatMap encR38),.rd β2 a0.Done.length (a0.Done.flatMap (encI .i64)),.sc (.bool a0.Most),.sc (.int .i64 a0.Bound)]⟩),(2,⟨65,true,x_18.2.flatMap encR64⟩)]⟩) (VC.sub (.c rfl<| .c rfl<| .c rfl<| .c rfl<| .c rfl<| .c rfl<| .n _) (.c rfl<| .c rfl<| .n _)) ?_
        refine AWP.join' (S := fun p_24 : (List R64) => ⟨[(2,.ptr 1 0),(6,.own 2 4 0 p_24.length),(26,.sc (.int .i64 (a0.Jobs.length : Int))),(27,.sc (.int .i64 x_18.1))],[(1,⟨65,false,[.rd false a0.Jobs.length (a0.Jobs.flatMap encR38),.rd β2 a0.Done.length (a0.Done.flatMap (encI .i64)),.sc (.bool a0.Most),.sc (.int .i64 a0.Bound)]⟩),(2,⟨65,true,p_24.flatMap encR64⟩)]⟩) h (fun p_24 h => ?_) (fun k_25 h => ?_)
        · obtain ⟨t27_26,ht27_26,h⟩ := letS h
          refine AWP.region (.cons (.add (lt1 rfl) (.tmp rfl) (.const _ _ _))<| .cons (.move (lt1 rfl) (.tmp rfl))<| ARun.nil _ _ _) ?_
          exact endJ (t27_26,p_24) h (by subst ht27_26; exact VC.sub (.c rfl<| .c rfl<| .c rfl<| .c rfl<| .n _) (.c rfl<| .c rfl<| .n _))
        · refine AWP.cond (.tmp rfl) (fun hc => ?_) (fun hc => ?_)
          · have h := iteT hc h
            obtain ⟨y_21,hy_21,h⟩ := bindS h
            obtain ⟨l3_22,hl3_22,h⟩ := bindS h
            obtain ⟨l2_23,hl2_23,h⟩ := bindS h
            refine AWP.draw (s' := ⟨[(2,.ptr 1 0),(6,.own 2 4 0 l2_23.length),(26,.sc (.int .i64 (a0.Jobs.length : Int))),(27,.sc (.int .i64 x_18.1))],[(2,⟨65,true,l2_23.flatMap encR64⟩),(1,⟨65,false,[.rd false a0.Jobs.length (a0.Jobs.flatMap encR38),.rd β2 a0.Done.length (a0.Done.flatMap (encI .i64)),.sc (.bool a0.Most),.sc (.int .i64 a0.Bound)]⟩)]⟩) mixed [⟨2,.ptr 1 0,none,[]⟩,⟨6,.own 2 4 0 x_18.2.length,none,[15,16]⟩,⟨7,.sc (.int .i64 x_18.1),none,[]⟩,⟨26,.sc (.int .i64 (a0.Jobs.length : Int)),none,[]⟩,⟨27,.sc (.int .i64 x_18.1),none,[]⟩,⟨34,.sc (.bool (!y_20)),none,[]⟩,⟨35,.own 2 4 0 x_18.2.length,some 0,[15]⟩,⟨36,.ptr 1 (0 + 0),some 1,[]⟩,⟨37,.rd false a0.Jobs.length (a0.Jobs.flatMap encR38),some 2,[]⟩,⟨38,.ptr 1 (0 + 1),some 3,[]⟩,⟨39,.rd β2 a0.Done.length (a0.Done.flatMap (encI .i64)),some 4,[]⟩,⟨40,.own 3 1 0 y_21.length,some 5,[8]⟩,⟨41,.sc (.int .i64 x_18.1),some 6,[]⟩,⟨42,.rd false ([x_18.1] : List Int).length (([x_18.1] : List Int).flatMap (encI .i64)),some 7,[]⟩,⟨43,.rd false l3_22.length (l3_22.flatMap (encI .i64)),some 8,[]⟩,⟨44,.ptr 1 (0 + 2),some 9,[]⟩,⟨45,.sc (.bool a0.Most),some 10,[]⟩,⟨46,.ptr 1 (0 + 3),some 11,[]⟩,⟨47,.sc (.int .i64 a0.Bound),some 12,[]⟩,⟨48,.agg [.rd false a0.Jobs.length (a0.Jobs.flatMap encR38),.rd false l3_22.length (l3_22.flatMap (encI .i64)),.sc (.bool a0.Most),.sc (.int .i64 a0.Bound)],some 13,[]⟩,⟨49,.rd false ([(R64.mk a0.Jobs l3_22 a0.Most a0.Bound)] : List R64).length (([(R64.mk a0.Jobs l3_22 a0.Most a0.Bound)] : List R64).flatMap encR64),some 14,[]⟩,⟨50,.own 2 4 0 l2_23.length,some 15,[]⟩,⟨6,.own 2 4 0 l2_23.length,some 16,[]⟩] [⟨[1],0,2,some (35,.own 2 4 0 x_18.2.length),[]⟩,⟨[0],0,2,some (36,.ptr 1 (0 + 0)),[]⟩,⟨[7],0,2,some (37,.rd false a0.Jobs.length (a0.Jobs.flatMap encR38)),[]⟩,⟨[0],0,0,some (38,.ptr 1 (0 + 1)),[]⟩,⟨[9],0,0,some (39,.rd β2 a0.Done.length (a0.Done.flatMap (encI .i64))),[]⟩,⟨[10],0,0,some (40,.own 3 1 0 y_21.length),[3]⟩,⟨[2],0,3,some (41,.sc (.int .i64 x_18.1)),[]⟩,⟨[12],0,3,some (42,.rd false ([x_18.1] : List Int).length (([x_18.1] : List Int).flatMap (encI .i64))),[]⟩,⟨[11,13],1,1,some (43,.rd false l3_22.length (l3_22.flatMap (encI .i64))),[3]⟩,⟨[0],0,2,some (44,.ptr 1 (0 + 2)),[]⟩,⟨[15],0,2,some (45,.sc (.bool a0.Most)),[]⟩,⟨[0],0,2,some (46,.ptr 1 (0 + 3)),[]⟩,⟨[17],0,2,some (47,.sc (.int .i64 a0.Bound)),[]⟩,⟨[8,14,16,18],0,3,some (48,.agg [.rd false a0.Jobs.length (a0.Jobs.flatMap encR38),.rd false l3_22.length (l3_22.flatMap (encI .i64)),.sc (.bool a0.Most),.sc (.int .i64 a0.Bound)]),[]⟩,⟨[19],0,3,some (49,.rd false ([(R64.mk a0.Jobs l3_22 a0.Most a0.Bound)] : List R64).length (([(R64.mk a0.Jobs l3_22 a0.Most a0.Bound)] : List R64).flatMap encR64)),[]⟩,⟨[6,20],2,2,some (50,.own 2 4 0 l2_23.length),[2]⟩,⟨[21],3,3,some (6,.own 2 4 0 l2_23.length),[]⟩] [5,8,15] [[(1,⟨65,false,[.rd false a0.Jobs.length (a0.Jobs.flatMap encR38),.rd β2 a0.Done.length (a0.Done.flatMap (encI .i64)),.sc (.bool a0.Most),.sc (.int .i64 a0.Bound)]⟩),(2,⟨65,true,x_18.2.flatMap encR64⟩)],[(3,⟨3,true,y_21.flatMap (encI .i64)⟩),(1,⟨65,false,[.rd false a0.Jobs.length (a0.Jobs.flatMap encR38),.rd β2 a0.Done.length (a0.Done.flatMap (encI .i64)),.sc (.bool a0.Most),.sc (.int .i64 a0.Bound)]⟩),(2,⟨65,true,x_18.2.flatMap encR64⟩)],[(1,⟨65,false,[.rd false a0.Jobs.length (a0.Jobs.flatMap encR38),.rd β2 a0.Done.length (a0.Done.flatMap (encI .i64)),.sc (.bool a0.Most),.sc (.int .i64 a0.Bound)]⟩),(2,⟨65,true,x_18.2.flatMap encR64⟩)],[(2,⟨65,true,l2_23.flatMap encR64⟩),(1,⟨65,false,[.rd false a0.Jobs.length (a0.Jobs.flatMap encR38),.rd β2 a0.Done.length (a0.Done.flatMap (encI .i64)),.sc (.bool a0.Most),.sc (.int .i64 a0.Bound)]⟩)]] [[],[],[1],[],[3],[3,4],[],[6],[3,4,5,6,7],[],[9],[],[11],[1,2,3,4,5,6,7,8,9,10,11,12],[1,2,3,4,5,6,7,8,9,10,11,12,13],[0,1,2,3,4,5,6,7,8,9,10,11,12,13,14],[0,1,2,3,4,5,6,7,8,9,10,11,12,13,14,15]] (by kernel_rfl) (by kernel_rfl) (BornL.ok (.o<| .o<| .o<| .o<| .o<| .o<| .b rfl rfl<| .b rfl rfl<| .b rfl rfl<| .b rfl rfl<| .b rfl rfl<| .b rfl rfl<| .b rfl rfl<| .b rfl rfl<| .b rfl rfl<| .b rfl rfl<| .b rfl rfl<| .b rfl rfl<| .b rfl rfl<| .b rfl rfl<| .b rfl rfl<| .b rfl rfl<| .b rfl rfl<| .n)) (BaseL.ok (.o rfl<| .o rfl<| .o rfl<| .o rfl<| .o rfl<| .o rfl<| .b<| .b<| .b<| .b<| .b<| .b<| .b<| .b<| .b<| .b<| .b<| .b<| .b<| .b<| .b<| .b<| .b<| .n)) rfl (by decide) (allLt rfl) (.read rfl (.c (.put (fun E hE => .move (lt1 rfl) (.tmp (hE.at (k := 0) rfl)))) (.c (.put (fun E hE => .move (lt1 rfl) (.tmp (hE.at (k := 0) rfl)))) (.c (.put (fun E hE => .move (lt1 rfl) (.tmp (hE.at (k := 0) rfl)))) (.n))))<| .read rfl (.c (.put (fun E hE => .fieldP (lt1 rfl) (.tmp (hE.at (k := 0) rfl)) fld65_0)) (.c (.put (fun E hE => .fieldP (lt1 rfl) (.tmp (hE.at (k := 0) rfl)) fld65_0)) (.c (.put (fun E hE => .fieldP (lt1 rfl) (.tmp (hE.at (k := 0) rfl)) fld65_0)) (.n))))<| .read rfl (.c (.put (fun E hE => .loadP (lt1 rfl) (.tmp (hE.at (k := 0) rfl)) one30 rfl rfl rfl)) (.c (.put (fun E hE => .loadP (lt1 rfl) (.tmp (hE.at (k := 0) rfl)) one30 rfl rfl rfl)) (.c (.put (fun E hE => .loadP (lt1 rfl) (.tmp (hE.at (k := 0) rfl)) one30 rfl rfl rfl)) (.n))))<| .read rfl (.c (.put (fun E hE => .fieldP (lt1 rfl) (.tmp (hE.at (k := 0) rfl)) fld65_1)) (.n))<| .read rfl (.c (.put (fun E hE => .loadP (lt1 rfl) (.tmp (hE.at (k := 0) rfl)) one26 rfl rfl rfl)) (.n))<| .turn rfl rfl rfl rfl rfl (.called (fun E hE => AStep.call (σ := fun _ => 3) (bw := false) (lt1 rfl) (c54o (β1 := β2) n a0.Done hy_21) (.cons (.tmp (hE.at (k := 0) rfl)) (.ren rfl) (.nil)) (CallOk.mk' (.n) rfl)) rfl rfl rfl)<| .pure rfl (fun H => .put (fun E hE => .move (lt1 rfl) (.tmp (hE.at (k := 0) rfl))))<| .pure rfl (fun H => .put (fun E hE => .frzAny (fun t ht => AStep.buildSlice (t := t) (out := ([x_18.1] : List Int).flatMap (encI .i64)) (lt1 rfl) ht (.cons (.tmp (hE.at (k := 0) rfl)) (by first | exact ⟨rfl,rfl⟩ | rfl) (.nil)) Try.underlying26 zero3 el3 (by decide) (by decide) rfl (still_all (encI_still .i64) _)) rfl (encI_len .i64)))<| .turn rfl rfl rfl rfl rfl (.appFrz (fun E hE => .app (enc := (encI .i64)) (lt1 rfl) (nm rfl) (.tmp (hE.at (k := 0) rfl)) (Src.rd (.tmp (hE.at (k := 1) rfl)) (flatMap_length (encI_len .i64) _) (one_all (encI_one .i64) _) (.inl rfl)) Try.underlying26 ⟨_,Try.underlying26,by intro k hk; cases hk⟩ el3 rfl (encI_len .i64) rfl rfl (by decide) hl3_22) rfl (encI_len .i64))<| .read rfl (.c (.put (fun E hE => .fieldP (lt1 rfl) (.tmp (hE.at (k := 0) rfl)) fld65_2)) (.c (.put (fun E hE => .fieldP (lt1 rfl) (.tmp (hE.at (k := 0) rfl)) fld65_2)) (.c (.put (fun E hE => .fieldP (lt1 rfl) (.tmp (hE.at (k := 0) rfl)) fld65_2)) (.n))))<| .read rfl (.c (.put (fun E hE => .loadP (lt1 rfl) (.tmp (hE.at (k := 0) rfl)) one4 rfl rfl rfl)) (.c (.put (fun E hE => .loadP (lt1 rfl) (.tmp (hE.at (k := 0) rfl)) one4 rfl rfl rfl)) (.c (.put (fun E hE => .loadP (lt1 rfl) (.tmp (hE.at (k := 0) rfl)) one4 rfl rfl rfl)) (.n))))<| .read rfl (.c (.put (fun E hE => .fieldP (lt1 rfl) (.tmp (hE.at (k := 0) rfl)) fld65_3)) (.c (.put (fun E hE => .fieldP (lt1 rfl) (.tmp (hE.at (k := 0) rfl)) fld65_3)) (.c (.put (fun E hE => .fieldP (lt1 rfl) (.tmp (hE.at (k := 0) rfl)) fld65_3)) (.n))))<| .read rfl (.c (.put (fun E hE => .loadP (lt1 rfl) (.tmp (hE.at (k := 0) rfl)) one3 rfl rfl rfl)) (.c (.put (fun E hE => .loadP (lt1 rfl) (.tmp (hE.at (k := 0) rfl)) one3 rfl rfl rfl)) (.c (.put (fun E hE => .loadP (lt1 rfl) (.tmp (hE.at (k := 0) rfl)) one3 rfl rfl rfl)) (.n))))<| .pure rfl (fun H => .put (fun E hE => .buildO (offs := [(0,1),(1,1),(2,1),(3,1)]) (lt1 rfl) (.cons (.tmp (hE.at (k := 0) rfl)) (by first | exact ⟨rfl,rfl⟩ | rfl) (.cons (.tmp (hE.at (k := 1) rfl)) (by first | exact ⟨rfl,rfl⟩ | rfl) (.cons (.tmp (hE.at (k := 2) rfl)) (by first | exact ⟨rfl,rfl⟩ | rfl) (.cons (.tmp (hE.at (k := 3) rfl)) (by first | exact ⟨rfl,rfl⟩ | rfl) (.nil))))) zero65 offs65 rfl))<| .pure rfl (fun H => .put (fun E hE => .frzAny (fun t ht => AStep.buildSlice (t := t) (out := ([(R64.mk a0.Jobs l3_22 a0.Most a0.Bound)] : List R64).flatMap encR64) (lt1 rfl) ht (.cons (.tmp (hE.at (k := 0) rfl)) (by first | exact ⟨rfl,rfl⟩ | rfl) (.nil)) Try.underlying61 zero65 el65 (by decide) (by decide) rfl (still_all encR64_still _)) rfl encR64_len))<| .turn rfl rfl rfl rfl rfl (.new (fun E hE => .app (enc := encR64) (lt1 rfl) (nm rfl) (.tmp (hE.at (k := 0) rfl)) (Src.rd (.tmp (hE.at (k := 1) rfl)) (flatMap_length encR64_len _) (one_all encR64_one _) (.inl rfl)) Try.underlying61 ⟨_,Try.underlying61,by intro k hk; cases hk⟩ el65 rfl encR64_len rfl rfl (by decide) hl2_23) rfl)<| .read rfl (.c (.put (fun E hE => .assign (lt1 rfl) (.tmp (hE.at (k := 0) rfl)))) (.n))<| .nil _) (fun E hE => .c (DInv.at hE (k := 0) rfl rfl rfl)<| .c (DInv.at hE (k := 22) rfl rfl rfl)<| .c (DInv.at hE (k := 3) rfl rfl rfl)<| .c (DInv.at hE (k := 4) rfl rfl rfl)<| .n _) rfl ?_
            exact endJ l2_23 h (VC.sub (.c rfl<| .c rfl<| .c rfl<| .c rfl<| .n _) (.c rfl<| .c rfl<| .n _))
          · have h := iteF hc h
            refine AWP.skip ?_
            exact endJ x_18.2 h (VC.sub (.c rfl<| .c rfl<| .c rfl<| .c rfl<| .n _) (.c rfl<| .c rfl<| .n _))
      · have h := iteF hc h
        refine AWP.exit ?_
        exact endJ x_18.2 h (VC.sub (.c rfl<| .n _) (.c rfl<| .n _))
theorem c55 {β1 : Bool} {β2 : Bool} (n : Nat) (a0 : R59) {r : Bool} (h : m55 n a0 = some r) : Spec Try.prog 55 [] [.agg [.rd β1 a0.Jobs.length (a0.Jobs.flatMap encR38),.rd β2 a0.Done.length (a0.Done.flatMap (encI .i64)),.sc (.bool a0.Most),.sc (.int .i64 a0.Bound)]] [] (.sc (.bool r)) [] := by
  refine Spec.of (fn := Try.f55) Try.func55 Try.ntmps55 rfl rfl (le1 rfl) (fun w0 Zs Zb T0 ι0 => ?_)
  unfold m55 at h
  refine AWP.seq ?_
  refine AWP.region (.cons (.box (t := 1) (n := 4) (lt1 rfl) (nm rfl) (.tmp rfl) (by first | exact ⟨rfl,rfl⟩ | rfl) rfl)<| .cons (.assign (lt1 rfl) (.const _ _ _))<| ARun.nil _ _ _) ?_
  refine AWP.vc (s' := ⟨[(1,.ptr 1 0)],[(1,⟨60,false,[.rd β1 a0.Jobs.length (a0.Jobs.flatMap encR38),.rd β2 a0.Done.length (a0.Done.flatMap (encI .i64)),.sc (.bool a0.Most),.sc (.int .i64 a0.Bound)]⟩)]⟩) (VC.sub (.c rfl<| .n _) (.c rfl<| .n _)) ?_
  refine AWP.seq ?_
  obtain ⟨y_1,hy_1,h⟩ := bindS h
  obtain ⟨y_2,hy_2,h⟩ := bindS h
  refine AWP.region (.cons (.fieldP (lt1 rfl) (.tmp rfl) fld60_0)<| .cons (.loadP (lt1 rfl) (.tmp rfl) one22 rfl rfl rfl)<| .cons (.lenRd (lt1 rfl) (.tmp rfl) Try.underlying22)<| .cons (.gtr (lt1 rfl) (.tmp rfl) (.const _ _ _))<| .cons (.move (lt1 rfl) (.tmp rfl))<| .guard (j := 4) (dj := 7) rfl (lt1 rfl) rfl (lt1 rfl) (fun hg => .fieldP (lt1 rfl) (.tmp rfl) fld60_0)<| .guard (j := 4) (dj := 7) rfl (lt1 rfl) rfl (lt1 rfl) (fun hg => .loadP (lt1 rfl) (.gd hg (.tmp rfl)) one22 rfl rfl rfl)<| .guard (j := 4) (dj := 7) rfl (lt1 rfl) rfl (lt1 rfl) (fun hg => .call0 (bw := false) (lt1 rfl) (c14 (β1 := β1) n a0.Jobs (gdB hy_1 hg)) (.cons (.gd hg (.tmp rfl)) (.ren rfl) (.nil)) rfl)<| .cons (.pickAnd (lt1 rfl) (.tmp rfl) (.tmp rfl) (.const _ _ _))<| .cons (.move (lt1 rfl) (.tmp rfl))<| .guard (j := 9) (dj := 12) rfl (lt1 rfl) rfl (lt1 rfl) (fun hg => .fieldP (lt1 rfl) (.tmp rfl) fld60_0)<| .guard (j := 9) (dj := 12) rfl (lt1 rfl) rfl (lt1 rfl) (fun hg => .loadP (lt1 rfl) (.gd hg (.tmp rfl)) one22 rfl rfl rfl)<| .guard (j := 9) (dj := 12) rfl (lt1 rfl) rfl (lt1 rfl) (fun hg => .fieldP (lt1 rfl) (.tmp rfl) fld60_1)<| .guard (j := 9) (dj := 12) rfl (lt1 rfl) rfl (lt1 rfl) (fun hg => .loadP (lt1 rfl) (.gd hg (.tmp rfl)) one26 rfl rfl rfl)<| .guard (j := 9) (dj := 12) rfl (lt1 rfl) rfl (lt1 rfl) (fun hg => .call0 (bw := false) (lt1 rfl) (c15 (β1 := β1) (β2 := β2) n a0.Jobs a0.Done (gdB hy_2 hg)) (.cons (.gd hg (.tmp rfl)) (.ren rfl) (.cons (.gd hg (.tmp rfl)) (.ren rfl) (.nil))) rfl)<| .cons (.pickAnd (lt1 rfl) (.tmp rfl) (.tmp rfl) (.const _ _ _))<| .cons (.move (lt1 rfl) (.tmp rfl))<| .guard (j := 16) (dj := 19) rfl (lt1 rfl) rfl (lt1 rfl) (fun hg => .fieldP (lt1 rfl) (.tmp rfl) fld60_3)<| .guard (j := 16) (dj := 19) rfl (lt1 rfl) rfl (lt1 rfl) (fun hg => .loadP (lt1 rfl) (.gd hg (.tmp rfl)) one3 rfl rfl rfl)<| .guard (j := 16) (dj := 19) rfl (lt1 rfl) rfl (lt1 rfl) (fun hg => .geq (lt1 rfl) (.gd hg (.tmp rfl)) (.const _ _ _))<| .cons (.pickAnd (lt1 rfl) (.tmp rfl) (.tmp rfl) (.const _ _ _))<| .cons (.move (lt1 rfl) (.tmp rfl))<| .guard (j := 21) (dj := 24) rfl (lt1 rfl) rfl (lt1 rfl) (fun hg => .fieldP (lt1 rfl) (.tmp rfl) fld60_3)<| .guard (j := 21) (dj := 24) rfl (lt1 rfl) rfl (lt1 rfl) (fun hg => .loadP (lt1 rfl) (.gd hg (.tmp rfl)) one3 rfl rfl rfl)<| .guard (j := 21) (dj := 24) rfl (lt1 rfl) rfl (lt1 rfl) (fun hg => .leq (lt1 rfl) (.gd hg (.tmp rfl)) (.const _ _ _))<| .cons (.pickAnd (lt1 rfl) (.tmp rfl) (.tmp rfl) (.const _ _ _))<| .cons (.assign (lt1 rfl) (.tmp rfl))<| ARun.nil _ _ _) ?_
  refine AWP.ret ?_
  obtain rfl := Option.some.inj h
  refine retJ (Res.vc (s' := ⟨[(2,.sc (.bool (((((decide ((0 : Int) < (a0.Jobs.length : Int))) && y_1) && y_2) && (decide ((-1073741824 : Int) ≤ a0.Bound))) && (decide (a0.Bound ≤ (1073741824 : Int))))))],[]⟩) (VC.sub (.c rfl<| .n _) (.n _)) ?_)
  refine Res.drop (H := []) rfl ?_
  exact Res.of rfl (.cons (.tmp rfl) (.nil)) rfl rfl
end Go.AB
