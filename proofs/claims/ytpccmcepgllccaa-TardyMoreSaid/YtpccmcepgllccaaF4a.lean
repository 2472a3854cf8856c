import Derived.Test.YtpccmcepgllccaaProg
import Derived.Test.YtpccmcepgllccaaF3a
import Derived.KernelRfl
set_option linter.unusedVariables false
set_option maxRecDepth 20000
namespace Go.AB
open Go Go.Proofs
theorem c13o {β1 : Bool} (n : Nat) (a0 : (List R38)) {r : (List R38)} (h : m13o n a0 = some r) : Spec Try.prog 13 [] [.rd β1 a0.length (a0.flatMap encR38)] [] (.own 1 3 0 r.length) [(1, ⟨40, true, r.flatMap encR38⟩)] := by
  refine Spec.of (fn := Try.f13) Try.func13 Try.ntmps13 rfl rfl (le1 rfl) (fun w0 Zs Zb T0 ι0 => ?_)
  unfold m13o at h
  refine AWP.seq ?_
  refine AWP.region (.cons (.assign (lt1 rfl) (.const _ _ _)) <| ARun.nil _ _ _) ?_
  refine AWP.vc (s' := ⟨[(0, .rd β1 a0.length (a0.flatMap encR38))], []⟩) (VC.sub (.c rfl <| .n _) (.n _)) ?_
  refine AWP.seq ?_
  refine AWP.region (.cons (.assign (lt1 rfl) (.const _ _ _)) <| ARun.nil _ _ _) ?_
  refine AWP.vc (s' := ⟨[(0, .rd β1 a0.length (a0.flatMap encR38)), (3, .sc (.slice none 0 0))], []⟩) (VC.sub (.c rfl <| .c rfl <| .n _) (.n _)) ?_
  refine AWP.seq ?_
  refine AWP.seq ?_
  refine AWP.region (.cons (.move (lt1 rfl) (.tmp rfl)) <| .cons (.lenRd (lt1 rfl) (.tmp rfl) Try.underlying22) <| .cons (.move (lt1 rfl) (.const _ _ _)) <| ARun.nil _ _ _) ?_
  refine AWP.vc (s' := ⟨[(3, .sc (.slice none 0 0)), (6, .rd β1 a0.length (a0.flatMap encR38)), (7, .sc (.int .i64 (a0.length : Int))), (8, .sc (.int .i64 (0 : Int)))], []⟩) (VC.sub (.c rfl <| .c rfl <| .c rfl <| .c rfl <| .n _) (.n _)) ?_
  refine AWP.joinB' (S := fun p_14 : (List R38) => ⟨[(3, .own 1 3 0 p_14.length)], [(1, ⟨40, true, p_14.flatMap encR38⟩)]⟩) h (fun p_14 h => ?_) (fun k_15 h => ?_)
  · refine AWP.seq ?_
    refine AWP.region (.cons (.move (lt1 rfl) (.tmp rfl)) <| .cons (.assign (lt1 rfl) (.tmp rfl)) <| ARun.nil _ _ _) ?_
    refine AWP.ret ?_
    obtain rfl := Option.some.inj h
    refine retJ (Res.vc (s' := ⟨[(2, .own 1 3 0 p_14.length)], [(1, ⟨40, true, p_14.flatMap encR38⟩)]⟩) (VC.sub (.c rfl <| .n _) (.c rfl <| .n _)) ?_)
    refine Res.sub (H := [(1, ⟨40, true, p_14.flatMap encR38⟩)]) (.c rfl <| .n _) ?_
    exact Res.of rfl (.cons (.tmp rfl) (.nil)) rfl rfl
  · refine AWP.vc (VC.nilOwn (d := 3) (t := 1) (sz := 3) (E := 40) rfl (nm rfl)) ?_
    refine AWP.vc (s' := ⟨[(3, .own 1 3 0 ([] : List R38).length), (6, .rd β1 a0.length (a0.flatMap encR38)), (7, .sc (.int .i64 (a0.length : Int))), (8, .sc (.int .i64 (0 : Int)))], [(1, ⟨40, true, ([] : List R38).flatMap encR38⟩)]⟩) (VC.sub (.c rfl <| .c rfl <| .c rfl <| .c rfl <| .n _) (.c rfl <| .n _)) ?_
    refine AWP.loopM (S := fun x_9 : Int × (List R38) => ⟨[(3, .own 1 3 0 x_9.2.length), (6, .rd β1 a0.length (a0.flatMap encR38)), (7, .sc (.int .i64 (a0.length : Int))), (8, .sc (.int .i64 x_9.1))], [(1, ⟨40, true, x_9.2.flatMap encR38⟩)]⟩) (x := ((0 : Int), ([] : List R38))) (fun nx_10 x_9 h => ?_) h
    unfold m13o_L1 at h
    refine AWP.seq ?_
    refine AWP.region (.cons (.lss (lt1 rfl) (.tmp rfl) (.tmp rfl)) <| ARun.nil _ _ _) ?_
    refine AWP.vc (s' := ⟨[(3, .own 1 3 0 x_9.2.length), (6, .rd β1 a0.length (a0.flatMap encR38)), (7, .sc (.int .i64 (a0.length : Int))), (8, .sc (.int .i64 x_9.1)), (9, .sc (.bool (decide (x_9.1 < (a0.length : Int)))))], [(1, ⟨40, true, x_9.2.flatMap encR38⟩)]⟩) (VC.sub (.c rfl <| .c rfl <| .c rfl <| .c rfl <| .c rfl <| .n _) (.c rfl <| .n _)) ?_
    refine AWP.seq ?_
    refine AWP.cond (.tmp rfl) (fun hc => ?_) (fun hc => ?_)
    · have h := iteT hc h
      refine AWP.skip ?_
      refine AWP.seq ?_
      refine AWP.block ?_
      refine AWP.seq ?_
      obtain ⟨y_11, hy_11, h⟩ := bindS h
      refine AWP.region (.cons (.indexRd (enc := encR38) (lt1 rfl) (.tmp rfl) (.tmp rfl) Try.underlying22 sz39 encR38_len rfl hy_11) <| .cons (.loadRA (out := [.sc (.int .i64 y_11.Release), .sc (.int .i64 y_11.Length), .sc (.int .i64 y_11.Due)]) (lt1 rfl) (.tmp rfl) agg39 (Nat.le_of_eq (Eq.symm (encR38_len _))) rfl) <| .cons (.alloc (t := 2) (k := ⟨39, false, [.sc (.int .i64 (0 : Int)), .sc (.int .i64 (0 : Int)), .sc (.int .i64 (0 : Int))]⟩) (lt1 rfl) (nm rfl) zero39 rfl rfl) <| .cons (.storePA (.tmp rfl) (.tmp rfl) sz39 rfl rfl (le1 rfl) (one_lit rfl) (by intro h; cases h) rfl) <| ARun.nil _ _ _) ?_
      refine AWP.vc (s' := ⟨[(3, .own 1 3 0 x_9.2.length), (6, .rd β1 a0.length (a0.flatMap encR38)), (7, .sc (.int .i64 (a0.length : Int))), (8, .sc (.int .i64 x_9.1)), (5, .ptr 2 0)], [(2, ⟨39, false, [.sc (.int .i64 y_11.Release), .sc (.int .i64 y_11.Length), .sc (.int .i64 y_11.Due)]⟩), (1, ⟨40, true, x_9.2.flatMap encR38⟩)]⟩) (VC.sub (.c rfl <| .c rfl <| .c rfl <| .c rfl <| .c rfl <| .n _) (.c rfl <| .c rfl <| .n _)) ?_
      obtain ⟨l1_12, hl1_12, h⟩ := bindS h
      refine AWP.region (.cons (.move (lt1 rfl) (.tmp rfl)) <| .cons (.loadPA (lt1 rfl) (.tmp rfl) agg39 rfl rfl rfl rfl) <| .cons (.buildSlice (t := 3) (out := ([(R38.mk y_11.Release y_11.Length y_11.Due)] : List R38).flatMap encR38) (lt1 rfl) (nm rfl) (.cons (.tmp rfl) (by first | exact ⟨rfl, rfl⟩ | rfl) (.nil)) Try.underlying30 zero40 el40 (by decide) (by decide) rfl (still_all encR38_still _)) <| .cons (.app (enc := encR38) (lt1 rfl) (nm rfl) (.tmp rfl) (Src.own (.tmp rfl) rfl (lendAll encR38_len _) (flatMap_length encR38_len _) (one_all encR38_one _) (.inl rfl)) Try.underlying30 ⟨_, Try.underlying30, by intro k hk; cases hk⟩ el40 rfl encR38_len rfl rfl (by decide) hl1_12) <| .cons (.assign (lt1 rfl) (.tmp rfl)) <| ARun.nil _ _ _) ?_
      refine AWP.vc (s' := ⟨[(3, .own 1 3 0 l1_12.length), (6, .rd β1 a0.length (a0.flatMap encR38)), (7, .sc (.int .i64 (a0.length : Int))), (8, .sc (.int .i64 x_9.1))], [(1, ⟨40, true, l1_12.flatMap encR38⟩)]⟩) (VC.sub (.c rfl <| .c rfl <| .c rfl <| .c rfl <| .n _) (.c rfl <| .n _)) ?_
      obtain ⟨t8_13, ht8_13, h⟩ := letS h
      refine AWP.region (.cons (.add (lt1 rfl) (.tmp rfl) (.const _ _ _)) <| .cons (.move (lt1 rfl) (.tmp rfl)) <| ARun.nil _ _ _) ?_
      exact endJ (t8_13, l1_12) h (by subst ht8_13; exact VC.sub (.c rfl <| .c rfl <| .c rfl <| .c rfl <| .n _) (.c rfl <| .n _))
    · have h := iteF hc h
      refine AWP.exit ?_
      exact endJ x_9.2 h (VC.sub (.c rfl <| .n _) (.c rfl <| .n _))
theorem c21 {β1 : Bool} (n : Nat) (a0 : (List R38)) (a1 : Int) {r : (Int × Int)} (h : m21 n a0 a1 = some r) : Spec Try.prog 21 [] [.rd β1 a0.length (a0.flatMap encR38), .sc (.int .i64 a1)] [] (.tup [.sc (.int .i64 r.1), .sc (.int .i64 r.2)]) [] := by
  refine Spec.of (fn := Try.f21) Try.func21 Try.ntmps21 rfl rfl (le1 rfl) (fun w0 Zs Zb T0 ι0 => ?_)
  unfold m21 at h
  refine AWP.seq ?_
  refine AWP.region (.cons (.assign (lt1 rfl) (.const _ _ _)) <| .cons (.assign (lt1 rfl) (.const _ _ _)) <| ARun.nil _ _ _) ?_
  refine AWP.vc (s' := ⟨[(0, .rd β1 a0.length (a0.flatMap encR38)), (1, .sc (.int .i64 a1))], []⟩) (VC.sub (.c rfl <| .c rfl <| .n _) (.n _)) ?_
  refine AWP.seq ?_
  refine AWP.block ?_
  refine AWP.seq ?_
  obtain ⟨y_1, hy_1, h⟩ := bindS h
  refine AWP.region (.cons (.move (lt1 rfl) (.tmp rfl)) <| .cons (.call0 (bw := false) (lt1 rfl) (c28 (β1 := β1) n a0 hy_1) (.cons (.tmp rfl) (.ren rfl) (.nil)) rfl) <| .cons (.not (lt1 rfl) (.tmp rfl)) <| .cons (.assign (lt1 rfl) (.tmp rfl)) <| ARun.nil _ _ _) ?_
  refine AWP.vc (s' := ⟨[(0, .rd β1 a0.length (a0.flatMap encR38)), (1, .sc (.int .i64 a1)), (6, .sc (.bool (!y_1)))], []⟩) (VC.sub (.c rfl <| .c rfl <| .c rfl <| .n _) (.n _)) ?_
  refine AWP.cond (.tmp rfl) (fun hc => ?_) (fun hc => ?_)
  · have h := iteT hc h
    refine AWP.seq ?_
    refine AWP.region (.cons (.assign (lt1 rfl) (.const _ _ _)) <| .cons (.assign (lt1 rfl) (.const _ _ _)) <| ARun.nil _ _ _) ?_
    refine AWP.ret ?_
    obtain rfl := Option.some.inj h
    refine retJ (Res.vc (s' := ⟨[(4, .sc (.int .i64 (0 : Int))), (5, .sc (.int .i64 (1 : Int)))], []⟩) (VC.sub (.c rfl <| .c rfl <| .n _) (.n _)) ?_)
    refine Res.drop (H := []) rfl ?_
    exact Res.of rfl (.cons (.tmp rfl) (.cons (.tmp rfl) (.nil))) rfl rfl
  · have h := iteF hc h
    refine AWP.seq ?_
    refine AWP.region (.cons (.move (lt1 rfl) (.tmp rfl)) <| .cons (.lss (lt1 rfl) (.tmp rfl) (.const _ _ _)) <| .cons (.move (lt1 rfl) (.tmp rfl)) <| .guard (j := 2) (dj := 13) rfl (lt1 rfl) rfl (lt1 rfl) (fun hg => .move (lt1 rfl) (.tmp rfl)) <| .guard (j := 2) (dj := 13) rfl (lt1 rfl) rfl (lt1 rfl) (fun hg => .gtr (lt1 rfl) (.gd hg (.tmp rfl)) (.const _ _ _)) <| .cons (.pickOr (lt1 rfl) (.tmp rfl) (.const _ _ _) (.tmp rfl)) <| .cons (.assign (lt1 rfl) (.tmp rfl)) <| ARun.nil _ _ _) ?_
    refine AWP.vc (s' := ⟨[(0, .rd β1 a0.length (a0.flatMap encR38)), (1, .sc (.int .i64 a1)), (10, .sc (.bool ((decide (a1 < (1 : Int))) || (decide ((6 : Int) < a1)))))], []⟩) (VC.sub (.c rfl <| .c rfl <| .c rfl <| .n _) (.n _)) ?_
    refine AWP.cond (.tmp rfl) (fun hc => ?_) (fun hc => ?_)
    · have h := iteT hc h
      refine AWP.seq ?_
      refine AWP.region (.cons (.assign (lt1 rfl) (.const _ _ _)) <| .cons (.assign (lt1 rfl) (.const _ _ _)) <| ARun.nil _ _ _) ?_
      refine AWP.ret ?_
      obtain rfl := Option.some.inj h
      refine retJ (Res.vc (s' := ⟨[(4, .sc (.int .i64 (0 : Int))), (5, .sc (.int .i64 (2 : Int)))], []⟩) (VC.sub (.c rfl <| .c rfl <| .n _) (.n _)) ?_)
      refine Res.drop (H := []) rfl ?_
      exact Res.of rfl (.cons (.tmp rfl) (.cons (.tmp rfl) (.nil))) rfl rfl
    · have h := iteF hc h
      refine AWP.skip ?_
      refine AWP.seq ?_
      obtain ⟨y_2, hy_2, h⟩ := bindS h
      refine AWP.region (.cons (.move (lt1 rfl) (.tmp rfl)) <| .cons (.move (lt1 rfl) (.tmp rfl)) <| .cons (.call0 (bw := false) (lt1 rfl) (c43 (β1 := β1) n a0 a1 hy_2) (.cons (.tmp rfl) (.ren rfl) (.cons (.tmp rfl) (.ren rfl) (.nil))) rfl) <| .cons (.assign (lt1 rfl) (.tmp rfl)) <| .cons (.assign (lt1 rfl) (.const _ _ _)) <| ARun.nil _ _ _) ?_
      refine AWP.ret ?_
      obtain rfl := Option.some.inj h
      refine retJ (Res.vc (s' := ⟨[(4, .sc (.int .i64 y_2)), (5, .sc (.int .i64 (0 : Int)))], []⟩) (VC.sub (.c rfl <| .c rfl <| .n _) (.n _)) ?_)
      refine Res.drop (H := []) rfl ?_
      exact Res.of rfl (.cons (.tmp rfl) (.cons (.tmp rfl) (.nil))) rfl rfl
theorem c4 {β1 : Bool} (n : Nat) (a0 : (List R38)) (a1 : R38) {r : Bool} (h : m4 n a0 a1 = some r) : Spec Try.prog 4 [] [.rd β1 a0.length (a0.flatMap encR38), .agg [.sc (.int .i64 a1.Release), .sc (.int .i64 a1.Length), .sc (.int .i64 a1.Due)]] [] (.sc (.bool r)) [] := by
  refine Spec.of (fn := Try.f4) Try.func4 Try.ntmps4 rfl rfl (le1 rfl) (fun w0 Zs Zb T0 ι0 => ?_)
  unfold m4 at h
  refine AWP.seq ?_
  refine AWP.region (.cons (.box (t := 1) (n := 3) (lt1 rfl) (nm rfl) (.tmp rfl) (by first | exact ⟨rfl, rfl⟩ | rfl) rfl) <| .cons (.assign (lt1 rfl) (.const _ _ _)) <| ARun.nil _ _ _) ?_
  refine AWP.vc (s' := ⟨[(0, .rd β1 a0.length (a0.flatMap encR38)), (3, .ptr 1 0)], [(1, ⟨39, false, [.sc (.int .i64 a1.Release), .sc (.int .i64 a1.Length), .sc (.int .i64 a1.Due)]⟩)]⟩) (VC.sub (.c rfl <| .c rfl <| .n _) (.c rfl <| .n _)) ?_
  refine AWP.seq ?_
  refine AWP.seq ?_
  obtain ⟨y_1, hy_1, h⟩ := bindS h
  obtain ⟨y_2, hy_2, h⟩ := bindS h
  obtain ⟨y_3, hy_3, h⟩ := bindS h
  refine AWP.region (.cons (.call0 (bw := false) (lt1 rfl) (c10 n hy_1) (.nil) rfl) <| .cons (.not (lt1 rfl) (.tmp rfl)) <| .cons (.move (lt1 rfl) (.tmp rfl)) <| .guard (j := 2) (dj := 16) rfl (lt1 rfl) rfl (lt1 rfl) (fun hg => .move (lt1 rfl) (.tmp rfl)) <| .guard (j := 2) (dj := 16) rfl (lt1 rfl) rfl (lt1 rfl) (fun hg => .lenRd (lt1 rfl) (.gd hg (.tmp rfl)) Try.underlying22) <| .guard (j := 2) (dj := 16) rfl (lt1 rfl) rfl (lt1 rfl) (fun hg => .gtr (lt1 rfl) (.gd hg (.tmp rfl)) (.const _ _ _)) <| .cons (.pickOr (lt1 rfl) (.tmp rfl) (.const _ _ _) (.tmp rfl)) <| .cons (.move (lt1 rfl) (.tmp rfl)) <| .guard (j := 7) (dj := 21) rfl (lt1 rfl) rfl (lt1 rfl) (fun hg => .move (lt1 rfl) (.tmp rfl)) <| .guard (j := 7) (dj := 21) rfl (lt1 rfl) rfl (lt1 rfl) (fun hg => .lenRd (lt1 rfl) (.gd hg (.tmp rfl)) Try.underlying22) <| .guard (j := 7) (dj := 21) rfl (lt1 rfl) rfl (lt1 rfl) (fun hg => .eql (lt1 rfl) (.gd hg (.tmp rfl)) (.const _ _ _)) <| .cons (.pickOr (lt1 rfl) (.tmp rfl) (.const _ _ _) (.tmp rfl)) <| .cons (.move (lt1 rfl) (.tmp rfl)) <| .guard (j := 12) (dj := 26) rfl (lt1 rfl) rfl (lt1 rfl) (fun hg => .move (lt1 rfl) (.tmp rfl)) <| .guard (j := 12) (dj := 26) rfl (lt1 rfl) rfl (lt1 rfl) (fun hg => .call0 (bw := false) (lt1 rfl) (c14 (β1 := β1) n a0 (gdB hy_2 hg)) (.cons (.gd hg (.tmp rfl)) (.ren rfl) (.nil)) rfl) <| .guard (j := 12) (dj := 26) rfl (lt1 rfl) rfl (lt1 rfl) (fun hg => .not (lt1 rfl) (.gd hg (.tmp rfl))) <| .cons (.pickOr (lt1 rfl) (.tmp rfl) (.const _ _ _) (.tmp rfl)) <| .cons (.move (lt1 rfl) (.tmp rfl)) <| .guard (j := 17) (dj := 31) rfl (lt1 rfl) rfl (lt1 rfl) (fun hg => .loadPA (lt1 rfl) (.tmp rfl) agg39 rfl rfl rfl rfl) <| .guard (j := 17) (dj := 31) rfl (lt1 rfl) rfl (lt1 rfl) (fun hg => .frzAny (fun t ht => AStep.buildSlice (t := t) (out := ([(R38.mk a1.Release a1.Length a1.Due)] : List R38).flatMap encR38) (lt1 rfl) ht (.cons (.gd hg (.tmp rfl)) (by first | exact ⟨rfl, rfl⟩ | rfl) (.nil)) Try.underlying22 zero39 el39 (by decide) (by decide) rfl (still_all encR38_still _)) rfl encR38_len) <| .guard (j := 17) (dj := 31) rfl (lt1 rfl) rfl (lt1 rfl) (fun hg => .call0 (bw := false) (lt1 rfl) (c14 (β1 := false) n ([(R38.mk a1.Release a1.Length a1.Due)] : List R38) (gdB hy_3 hg)) (.cons (.gd hg (.tmp rfl)) (.ren rfl) (.nil)) rfl) <| .guard (j := 17) (dj := 31) rfl (lt1 rfl) rfl (lt1 rfl) (fun hg => .not (lt1 rfl) (.gd hg (.tmp rfl))) <| .cons (.pickOr (lt1 rfl) (.tmp rfl) (.const _ _ _) (.tmp rfl)) <| ARun.nil _ _ _) ?_
  refine AWP.vc (s' := ⟨[(0, .rd β1 a0.length (a0.flatMap encR38)), (3, .ptr 1 0), (36, .sc (.bool (((((!y_1) || (decide ((9 : Int) < (a0.length : Int)))) || (decide ((a0.length : Int) = (0 : Int)))) || (!y_2)) || (!y_3))))], [(1, ⟨39, false, [.sc (.int .i64 a1.Release), .sc (.int .i64 a1.Length), .sc (.int .i64 a1.Due)]⟩)]⟩) (VC.sub (.c rfl <| .c rfl <| .c rfl <| .n _) (.c rfl <| .n _)) ?_
  refine AWP.cond (.tmp rfl) (fun hc => ?_) (fun hc => ?_)
  · have h := iteT hc h
    refine AWP.seq ?_
    obtain ⟨y_4, hy_4, h⟩ := bindS h
    refine AWP.region (.cons (.call0 (bw := false) (lt1 rfl) (c10 n hy_4) (.nil) rfl) <| .cons (.assign (lt1 rfl) (.tmp rfl)) <| ARun.nil _ _ _) ?_
    refine AWP.ret ?_
    obtain rfl := Option.some.inj h
    refine retJ (Res.vc (s' := ⟨[(4, .sc (.bool y_4))], []⟩) (VC.sub (.c rfl <| .n _) (.n _)) ?_)
    refine Res.drop (H := []) rfl ?_
    exact Res.of rfl (.cons (.tmp rfl) (.nil)) rfl rfl
  · have h := iteF hc h
    refine AWP.skip ?_
    refine AWP.seq ?_
    obtain ⟨y_5, hy_5, h⟩ := bindS h
    obtain ⟨l3_6, hl3_6, h⟩ := bindS h
    refine AWP.draw (s' := ⟨[(0, .rd β1 a0.length (a0.flatMap encR38)), (5, .own 3 3 0 l3_6.length)], [(3, ⟨40, true, l3_6.flatMap encR38⟩), (1, ⟨39, false, [.sc (.int .i64 a1.Release), .sc (.int .i64 a1.Length), .sc (.int .i64 a1.Due)]⟩)]⟩) mixed [⟨0, .rd β1 a0.length (a0.flatMap encR38), none, []⟩, ⟨3, .ptr 1 0, none, []⟩, ⟨36, .sc (.bool (((((!y_1) || (decide ((9 : Int) < (a0.length : Int)))) || (decide ((a0.length : Int) = (0 : Int)))) || (!y_2)) || (!y_3))), none, []⟩, ⟨38, .rd β1 a0.length (a0.flatMap encR38), some 0, []⟩, ⟨39, .own 3 3 0 y_5.length, some 1, [4]⟩, ⟨40, .agg [.sc (.int .i64 a1.Release), .sc (.int .i64 a1.Length), .sc (.int .i64 a1.Due)], some 2, []⟩, ⟨41, .rd false ([(R38.mk a1.Release a1.Length a1.Due)] : List R38).length (([(R38.mk a1.Release a1.Length a1.Due)] : List R38).flatMap encR38), some 3, []⟩, ⟨42, .own 3 3 0 l3_6.length, some 4, []⟩, ⟨5, .own 3 3 0 l3_6.length, some 5, []⟩] [⟨[0], 0, 2, some (38, .rd β1 a0.length (a0.flatMap encR38)), []⟩, ⟨[3], 0, 0, some (39, .own 3 3 0 y_5.length), [3]⟩, ⟨[1], 0, 1, some (40, .agg [.sc (.int .i64 a1.Release), .sc (.int .i64 a1.Length), .sc (.int .i64 a1.Due)]), []⟩, ⟨[5], 0, 2, some (41, .rd false ([(R38.mk a1.Release a1.Length a1.Due)] : List R38).length (([(R38.mk a1.Release a1.Length a1.Due)] : List R38).flatMap encR38)), []⟩, ⟨[4, 6], 1, 1, some (42, .own 3 3 0 l3_6.length), [3]⟩, ⟨[7], 2, 2, some (5, .own 3 3 0 l3_6.length), []⟩] [1, 4] [[(1, ⟨39, false, [.sc (.int .i64 a1.Release), .sc (.int .i64 a1.Length), .sc (.int .i64 a1.Due)]⟩)], [(3, ⟨40, true, y_5.flatMap encR38⟩), (1, ⟨39, false, [.sc (.int .i64 a1.Release), .sc (.int .i64 a1.Length), .sc (.int .i64 a1.Due)]⟩)], [(3, ⟨40, true, l3_6.flatMap encR38⟩), (1, ⟨39, false, [.sc (.int .i64 a1.Release), .sc (.int .i64 a1.Length), .sc (.int .i64 a1.Due)]⟩)]] [[], [0], [], [2], [0, 1, 2, 3], [0, 1, 2, 3, 4]] (by kernel_rfl) (by kernel_rfl) (BornL.ok (.o <| .o <| .o <| .b rfl rfl <| .b rfl rfl <| .b rfl rfl <| .b rfl rfl <| .b rfl rfl <| .b rfl rfl <| .n)) (BaseL.ok (.o rfl <| .o rfl <| .o rfl <| .b <| .b <| .b <| .b <| .b <| .b <| .n)) rfl (by decide) (allLt rfl) (.pure rfl (fun H => .put (fun E hE => .move (lt1 rfl) (.tmp (hE.at (k := 0) rfl)))) <| .turn rfl rfl rfl rfl rfl (.called (fun E hE => AStep.call (σ := fun _ => 3) (bw := false) (lt1 rfl) (c13o (β1 := β1) n a0 hy_5) (.cons (.tmp (hE.at (k := 0) rfl)) (.ren rfl) (.nil)) (CallOk.mk' (.n) rfl)) rfl rfl rfl) <| .read rfl (.c (.put (fun E hE => .loadPA (lt1 rfl) (.tmp (hE.at (k := 0) rfl)) agg39 rfl rfl rfl rfl)) (.c (.put (fun E hE => .loadPA (lt1 rfl) (.tmp (hE.at (k := 0) rfl)) agg39 rfl rfl rfl rfl)) (.n))) <| .pure rfl (fun H => .put (fun E hE => .frzAny (fun t ht => AStep.buildSlice (t := t) (out := ([(R38.mk a1.Release a1.Length a1.Due)] : List R38).flatMap encR38) (lt1 rfl) ht (.cons (.tmp (hE.at (k := 0) rfl)) (by first | exact ⟨rfl, rfl⟩ | rfl) (.nil)) Try.underlying30 zero40 el40 (by decide) (by decide) rfl (still_all encR38_still _)) rfl encR38_len)) <| .turn rfl rfl rfl rfl rfl (.new (fun E hE => .app (enc := encR38) (lt1 rfl) (nm rfl) (.tmp (hE.at (k := 0) rfl)) (Src.rd (.tmp (hE.at (k := 1) rfl)) (flatMap_length encR38_len _) (one_all encR38_one _) (.inl rfl)) Try.underlying30 ⟨_, Try.underlying30, by intro k hk; cases hk⟩ el40 rfl encR38_len rfl rfl (by decide) hl3_6) rfl) <| .read rfl (.c (.put (fun E hE => .assign (lt1 rfl) (.tmp (hE.at (k := 0) rfl)))) (.n)) <| .nil _) (fun E hE => .c (DInv.at hE (k := 0) rfl rfl rfl) <| .c (DInv.at hE (k := 8) rfl rfl rfl) <| .n _) rfl ?_
    refine AWP.vc (s' := ⟨[(0, .rd β1 a0.length (a0.flatMap encR38)), (5, .own 3 3 0 l3_6.length)], [(3, ⟨40, true, l3_6.flatMap encR38⟩)]⟩) (VC.sub (.c rfl <| .c rfl <| .n _) (.c rfl <| .n _)) ?_
    refine AWP.seq ?_
    obtain ⟨y_7, hy_7, h⟩ := bindS h
    obtain ⟨y_8, hy_8, h⟩ := bindS h
    refine AWP.region (.cons (.move (lt1 rfl) (.tmp rfl)) <| .cons (.call0 (bw := false) (lt1 rfl) (c13 (β1 := β1) n a0 hy_7) (.cons (.tmp rfl) (.ren rfl) (.nil)) rfl) <| .cons (.call0 (bw := false) (lt1 rfl) (c20 (β1 := false) n y_7 hy_8) (.cons (.tmp rfl) (.ren rfl) (.nil)) rfl) <| .cons (.move (lt1 rfl) (.tmp rfl)) <| .cons (.extract (lt1 rfl) (.tmp rfl) rfl) <| .cons (.extract (lt1 rfl) (.tmp rfl) rfl) <| .cons (.assign (lt1 rfl) (.tmp rfl)) <| .cons (.assign (lt1 rfl) (.tmp rfl)) <| ARun.nil _ _ _) ?_
    refine AWP.vc (s' := ⟨[(0, .rd β1 a0.length (a0.flatMap encR38)), (5, .own 3 3 0 l3_6.length), (6, .sc (.int .i64 y_8.1)), (7, .sc (.int .i64 y_8.2))], [(3, ⟨40, true, l3_6.flatMap encR38⟩)]⟩) (VC.sub (.c rfl <| .c rfl <| .c rfl <| .c rfl <| .n _) (.c rfl <| .n _)) ?_
    refine AWP.seq ?_
    obtain ⟨y_9, hy_9, h⟩ := bindS h
    refine AWP.region (.cons (.move (lt1 rfl) (.tmp rfl)) <| .cons (.call0 (bw := true) (lt1 rfl) (c20 (β1 := true) n l3_6 hy_9) (.cons (.tmp rfl) (.lendRow rfl rfl encR38_len rfl) (.nil)) rfl) <| .cons (.move (lt1 rfl) (.tmp rfl)) <| .cons (.extract (lt1 rfl) (.tmp rfl) rfl) <| .cons (.extract (lt1 rfl) (.tmp rfl) rfl) <| .cons (.assign (lt1 rfl) (.tmp rfl)) <| .cons (.assign (lt1 rfl) (.tmp rfl)) <| ARun.nil _ _ _) ?_
    refine AWP.vc (s' := ⟨[(0, .rd β1 a0.length (a0.flatMap encR38)), (5, .own 3 3 0 l3_6.length), (6, .sc (.int .i64 y_8.1)), (7, .sc (.int .i64 y_8.2)), (8, .sc (.int .i64 y_9.1)), (9, .sc (.int .i64 y_9.2))], [(3, ⟨40, true, l3_6.flatMap encR38⟩)]⟩) (VC.sub (.c rfl <| .c rfl <| .c rfl <| .c rfl <| .c rfl <| .c rfl <| .n _) (.c rfl <| .n _)) ?_
    refine AWP.seq ?_
    obtain ⟨y_10, hy_10, h⟩ := bindS h
    obtain ⟨y_11, hy_11, h⟩ := bindS h
    refine AWP.region (.cons (.move (lt1 rfl) (.tmp rfl)) <| .cons (.call0 (bw := false) (lt1 rfl) (c13 (β1 := β1) n a0 hy_10) (.cons (.tmp rfl) (.ren rfl) (.nil)) rfl) <| .cons (.call0 (bw := false) (lt1 rfl) (c21 (β1 := false) n y_10 (2 : Int) hy_11) (.cons (.tmp rfl) (.ren rfl) (.cons (.const _ _ _) (.ren rfl) (.nil))) rfl) <| .cons (.move (lt1 rfl) (.tmp rfl)) <| .cons (.extract (lt1 rfl) (.tmp rfl) rfl) <| .cons (.extract (lt1 rfl) (.tmp rfl) rfl) <| .cons (.assign (lt1 rfl) (.tmp rfl)) <| .cons (.assign (lt1 rfl) (.tmp rfl)) <| ARun.nil _ _ _) ?_
    refine AWP.vc (s' := ⟨[(5, .own 3 3 0 l3_6.length), (6, .sc (.int .i64 y_8.1)), (7, .sc (.int .i64 y_8.2)), (8, .sc (.int .i64 y_9.1)), (9, .sc (.int .i64 y_9.2)), (10, .sc (.int .i64 y_11.1)), (11, .sc (.int .i64 y_11.2))], [(3, ⟨40, true, l3_6.flatMap encR38⟩)]⟩) (VC.sub (.c rfl <| .c rfl <| .c rfl <| .c rfl <| .c rfl <| .c rfl <| .c rfl <| .n _) (.c rfl <| .n _)) ?_
    refine AWP.seq ?_
    obtain ⟨y_12, hy_12, h⟩ := bindS h
    refine AWP.region (.cons (.move (lt1 rfl) (.tmp rfl)) <| .cons (.call0 (bw := true) (lt1 rfl) (c21 (β1 := true) n l3_6 (2 : Int) hy_12) (.cons (.tmp rfl) (.lendRow rfl rfl encR38_len rfl) (.cons (.const _ _ _) (.ren rfl) (.nil))) rfl) <| .cons (.move (lt1 rfl) (.tmp rfl)) <| .cons (.extract (lt1 rfl) (.tmp rfl) rfl) <| .cons (.extract (lt1 rfl) (.tmp rfl) rfl) <| .cons (.assign (lt1 rfl) (.tmp rfl)) <| .cons (.assign (lt1 rfl) (.tmp rfl)) <| ARun.nil _ _ _) ?_
    refine AWP.vc (s' := ⟨[(6, .sc (.int .i64 y_8.1)), (7, .sc (.int .i64 y_8.2)), (8, .sc (.int .i64 y_9.1)), (9, .sc (.int .i64 y_9.2)), (10, .sc (.int .i64 y_11.1)), (11, .sc (.int .i64 y_11.2)), (12, .sc (.int .i64 y_12.1)), (13, .sc (.int .i64 y_12.2))], []⟩) (VC.sub (.c rfl <| .c rfl <| .c rfl <| .c rfl <| .c rfl <| .c rfl <| .c rfl <| .c rfl <| .n _) (.n _)) ?_
    refine AWP.seq ?_
    obtain ⟨t4_13, ht4_13, h⟩ := letS h
    refine AWP.region (.cons (.move (lt1 rfl) (.tmp rfl)) <| .cons (.eql (lt1 rfl) (.tmp rfl) (.const _ _ _)) <| .cons (.move (lt1 rfl) (.tmp rfl)) <| .guard (j := 2) (dj := 67) rfl (lt1 rfl) rfl (lt1 rfl) (fun hg => .move (lt1 rfl) (.tmp rfl)) <| .guard (j := 2) (dj := 67) rfl (lt1 rfl) rfl (lt1 rfl) (fun hg => .eql (lt1 rfl) (.gd hg (.tmp rfl)) (.const _ _ _)) <| .cons (.pickAnd (lt1 rfl) (.tmp rfl) (.tmp rfl) (.const _ _ _)) <| .cons (.move (lt1 rfl) (.tmp rfl)) <| .guard (j := 6) (dj := 71) rfl (lt1 rfl) rfl (lt1 rfl) (fun hg => .move (lt1 rfl) (.tmp rfl)) <| .guard (j := 6) (dj := 71) rfl (lt1 rfl) rfl (lt1 rfl) (fun hg => .eql (lt1 rfl) (.gd hg (.tmp rfl)) (.const _ _ _)) <| .cons (.pickAnd (lt1 rfl) (.tmp rfl) (.tmp rfl) (.const _ _ _)) <| .cons (.move (lt1 rfl) (.tmp rfl)) <| .guard (j := 10) (dj := 75) rfl (lt1 rfl) rfl (lt1 rfl) (fun hg => .move (lt1 rfl) (.tmp rfl)) <| .guard (j := 10) (dj := 75) rfl (lt1 rfl) rfl (lt1 rfl) (fun hg => .eql (lt1 rfl) (.gd hg (.tmp rfl)) (.const _ _ _)) <| .cons (.pickAnd (lt1 rfl) (.tmp rfl) (.tmp rfl) (.const _ _ _)) <| .cons (.move (lt1 rfl) (.tmp rfl)) <| .guard (j := 14) (dj := 79) rfl (lt1 rfl) rfl (lt1 rfl) (fun hg => .move (lt1 rfl) (.tmp rfl)) <| .guard (j := 14) (dj := 79) rfl (lt1 rfl) rfl (lt1 rfl) (fun hg => .move (lt1 rfl) (.tmp rfl)) <| .guard (j := 14) (dj := 79) rfl (lt1 rfl) rfl (lt1 rfl) (fun hg => .leq (lt1 rfl) (.gd hg (.tmp rfl)) (.gd hg (.tmp rfl))) <| .cons (.pickAnd (lt1 rfl) (.tmp rfl) (.tmp rfl) (.const _ _ _)) <| .cons (.move (lt1 rfl) (.tmp rfl)) <| .guard (j := 19) (dj := 84) rfl (lt1 rfl) rfl (lt1 rfl) (fun hg => .move (lt1 rfl) (.tmp rfl)) <| .guard (j := 19) (dj := 84) rfl (lt1 rfl) rfl (lt1 rfl) (fun hg => .move (lt1 rfl) (.tmp rfl)) <| .guard (j := 19) (dj := 84) rfl (lt1 rfl) rfl (lt1 rfl) (fun hg => .leq (lt1 rfl) (.gd hg (.tmp rfl)) (.gd hg (.tmp rfl))) <| .cons (.pickAnd (lt1 rfl) (.tmp rfl) (.tmp rfl) (.const _ _ _)) <| .cons (.assign (lt1 rfl) (.tmp rfl)) <| ARun.nil _ _ _) ?_
    refine AWP.ret ?_
    obtain rfl := Option.some.inj h
    refine retJ (Res.vc (s' := ⟨[(4, .sc (.bool t4_13))], []⟩) (by subst ht4_13; exact VC.sub (.c rfl <| .n _) (.n _)) ?_)
    refine Res.drop (H := []) rfl ?_
    exact Res.of rfl (.cons (.tmp rfl) (.nil)) rfl rfl
end Go.AB
