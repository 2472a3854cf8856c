import Derived.Test.YtgbbmfafdbafjaaProg
import Derived.Test.YtgbbmfafdbafjaaFa
import Derived.Test.YtgbbmfafdbafjaaAb21
import Derived.KernelRfl
set_option linter.unusedVariables false
namespace Go.AB
open Go Go.Proofs
theorem sz36 : szOf Try.prog 36 1 := szOf.mk (by kernel_rfl)
theorem one36 : oneT Try.prog 36 := ⟨_, Try.underlying36, trivial⟩
def m19o (n : Nat) (a0 : (List UInt8)) : Option (List UInt8) :=
  ((m12 n a0).bind fun y_1 => ((m25 n y_1).bind fun y_2 => (asrt (y_2.length = 8) ((mk (0 : UInt8) (0 : Int) (IntKind.wrap .i64 ((a0.length : Int) + (8 : Int)))).bind fun l2_4 => ((apd l2_4 a0).bind fun l2_5 => (asrt (y_2.length = 8) ((apd l2_5 y_2).bind fun l2_7 => (some l2_7))))))))
theorem c19o {β1 : Bool} (n : Nat) (a0 : (List UInt8)) {r : (List UInt8)} (h : m19o n a0 = some r) : Spec Try.prog 19 [] [.rd β1 a0.length (a0.flatMap enc8)] [] (.own 2 1 0 r.length) [(2, ⟨5, true, r.flatMap enc8⟩)] := by
  refine Spec.of (fn := Try.f19) Try.func19 Try.ntmps19 rfl rfl (le1 rfl) (fun w0 Zs Zb T0 ι0 => ?_)
  unfold m19o at h
  refine AWP.seq ?_
  refine AWP.region (.cons (.assign (lt1 rfl) (.const _ _ _)) <| ARun.nil _ _ _) ?_
  refine AWP.vc (s' := ⟨[(0, .rd β1 a0.length (a0.flatMap enc8))], []⟩) (VC.sub (.c rfl <| .n _) (.n _)) ?_
  refine AWP.seq ?_
  obtain ⟨y_1, hy_1, h⟩ := bindS h
  obtain ⟨y_2, hy_2, h⟩ := bindS h
  obtain ⟨ha_3, h⟩ := asrtS h
  refine AWP.region (.cons (.move (lt1 rfl) (.tmp rfl)) <| .cons (.call0 (bw := false) (lt1 rfl) (c12 (β1 := β1) n a0 hy_1) (.cons (.tmp rfl) (.ren rfl) (.nil)) rfl) <| .cons (.call0 (bw := false) (lt1 rfl) (c25 n y_1 hy_2) (.cons (.tmp rfl) (.ren rfl) (.nil)) (tagc_all enc8_still _ _)) <| .cons (.alloc (t := 1) (k := ⟨45, true, (List.replicate 8 (0 : UInt8)).flatMap enc8⟩) (lt1 rfl) (nm rfl) zero45 rfl rfl) <| .cons (.storePA (.tmp rfl) (.tmp (lkNew rfl enc8_still rfl)) sz45 (len_all (n := 8) enc8_len ha_3) rfl (len_le (n := 8) enc8_len List.length_replicate) (one_all enc8_one _) (fun _ => still_all enc8_still _) (splL_all enc8_len List.length_replicate ha_3)) <| ARun.nil _ _ _) ?_
  refine AWP.vc (s' := ⟨[(0, .rd β1 a0.length (a0.flatMap enc8)), (3, .ptr 1 0)], [(1, ⟨45, true, y_2.flatMap enc8⟩)]⟩) (VC.sub (.c rfl <| .c rfl <| .n _) (.c rfl <| .n _)) ?_
  refine AWP.seq ?_
  obtain ⟨l2_4, hl2_4, h⟩ := bindS h
  obtain ⟨l2_5, hl2_5, h⟩ := bindS h
  obtain ⟨ha_6, h⟩ := asrtS h
  obtain ⟨l2_7, hl2_7, h⟩ := bindS h
  refine AWP.draw (s' := ⟨[(2, .own 2 1 0 l2_7.length)], [(2, ⟨5, true, l2_7.flatMap enc8⟩), (1, ⟨45, true, y_2.flatMap enc8⟩)]⟩) mixed [⟨0, .rd β1 a0.length (a0.flatMap enc8), none, []⟩, ⟨3, .ptr 1 0, none, []⟩, ⟨7, .rd β1 a0.length (a0.flatMap enc8), some 0, []⟩, ⟨8, .sc (.int .i64 (a0.length : Int)), some 1, []⟩, ⟨9, .sc (.int .i64 (IntKind.wrap .i64 ((a0.length : Int) + (8 : Int)))), some 2, []⟩, ⟨10, .own 2 1 0 l2_4.length, some 3, [5, 7]⟩, ⟨11, .rd β1 a0.length (a0.flatMap enc8), some 4, []⟩, ⟨12, .own 2 1 0 l2_5.length, some 5, [7]⟩, ⟨13, .own 1 1 0 y_2.length, some 6, []⟩, ⟨14, .own 2 1 0 l2_7.length, some 7, []⟩, ⟨2, .own 2 1 0 l2_7.length, some 8, []⟩] [⟨[0], 0, 3, some (7, .rd β1 a0.length (a0.flatMap enc8)), []⟩, ⟨[2], 0, 3, some (8, .sc (.int .i64 (a0.length : Int))), []⟩, ⟨[3], 0, 3, some (9, .sc (.int .i64 (IntKind.wrap .i64 ((a0.length : Int) + (8 : Int))))), []⟩, ⟨[4], 0, 0, some (10, .own 2 1 0 l2_4.length), [2]⟩, ⟨[0], 0, 3, some (11, .rd β1 a0.length (a0.flatMap enc8)), []⟩, ⟨[5, 6], 1, 1, some (12, .own 2 1 0 l2_5.length), [2]⟩, ⟨[1], 0, 2, some (13, .own 1 1 0 y_2.length), []⟩, ⟨[7, 8], 2, 2, some (14, .own 2 1 0 l2_7.length), [2]⟩, ⟨[9], 3, 3, some (2, .own 2 1 0 l2_7.length), []⟩] [3, 5, 7] [[(1, ⟨45, true, y_2.flatMap enc8⟩)], [(2, ⟨5, true, l2_4.flatMap enc8⟩), (1, ⟨45, true, y_2.flatMap enc8⟩)], [(2, ⟨5, true, l2_5.flatMap enc8⟩), (1, ⟨45, true, y_2.flatMap enc8⟩)], [(2, ⟨5, true, l2_7.flatMap enc8⟩), (1, ⟨45, true, y_2.flatMap enc8⟩)]] [[], [0], [0, 1], [0, 1, 2], [], [0, 1, 2, 3, 4], [], [0, 1, 2, 3, 4, 5, 6], [0, 1, 2, 3, 4, 5, 6, 7]] (by kernel_rfl) (by kernel_rfl) (And.intro trivial (And.intro trivial (And.intro (Exists.intro _ (And.intro rfl rfl)) (And.intro (Exists.intro _ (And.intro rfl rfl)) (And.intro (Exists.intro _ (And.intro rfl rfl)) (And.intro (Exists.intro _ (And.intro rfl rfl)) (And.intro (Exists.intro _ (And.intro rfl rfl)) (And.intro (Exists.intro _ (And.intro rfl rfl)) (And.intro (Exists.intro _ (And.intro rfl rfl)) (And.intro (Exists.intro _ (And.intro rfl rfl)) (And.intro (Exists.intro _ (And.intro rfl rfl)) (trivial)))))))))))) (And.intro rfl (And.intro rfl (And.intro trivial (And.intro trivial (And.intro trivial (And.intro trivial (And.intro trivial (And.intro trivial (And.intro trivial (And.intro trivial (And.intro trivial (trivial)))))))))))) rfl (by decide) (allLt rfl) (.pure rfl (fun H => .put (fun E hE => .move (lt1 rfl) (.tmp (hE.at (k := 0) rfl)))) <| .pure rfl (fun H => .put (fun E hE => .lenRd (lt1 rfl) (.tmp (hE.at (k := 0) rfl)) Try.underlying22)) <| .pure rfl (fun H => .put (fun E hE => .add (lt1 rfl) (.tmp (hE.at (k := 0) rfl)) (.const _ _ _))) <| .turn rfl rfl rfl rfl rfl (.new (fun E hE => .mkS (enc := enc8) (t := 2) (lt1 rfl) (nm rfl) (.const _ _ _) (.tmp (hE.at (k := 0) rfl)) Try.underlying22 zero5 el5 rfl enc8_len (by decide) hl2_4) rfl) <| .pure rfl (fun H => .put (fun E hE => .move (lt1 rfl) (.tmp (hE.at (k := 0) rfl)))) <| .turn rfl rfl rfl rfl rfl (.new (fun E hE => .app (enc := enc8) (lt1 rfl) (nm rfl) (.tmp (hE.at (k := 0) rfl)) (Src.rd (.tmp (hE.at (k := 1) rfl)) (flatMap_length enc8_len _) (one_all enc8_one _) (.inr (scal_all enc8_scal _))) Try.underlying22 ⟨_, Try.underlying22, by intro k hk; cases hk⟩ el5 rfl enc8_len rfl rfl (by decide) hl2_5) rfl) <| .read rfl (.c (.put (fun E hE => .slArr (lt1 rfl) (.tmp (hE.at (k := 0) rfl)) Try.underlying45 sz5 rfl enc8_len ha_6 (by decide))) (.c (.put (fun E hE => .slArr (lt1 rfl) (.tmp (hE.at (k := 0) rfl)) Try.underlying45 sz5 rfl enc8_len ha_6 (by decide))) (.c (.put (fun E hE => .slArr (lt1 rfl) (.tmp (hE.at (k := 0) rfl)) Try.underlying45 sz5 rfl enc8_len ha_6 (by decide))) (.n)))) <| .turn rfl rfl rfl rfl rfl (.new (fun E hE => .app (enc := enc8) (lt1 rfl) (nm rfl) (.tmp (hE.at (k := 0) rfl)) (Src.own (.tmp (hE.at (k := 1) rfl)) rfl (lendAll enc8_len _) (flatMap_length enc8_len _) (one_all enc8_one _) (.inl rfl)) Try.underlying22 ⟨_, Try.underlying22, by intro k hk; cases hk⟩ el5 rfl enc8_len rfl rfl (by decide) hl2_7) rfl) <| .read rfl (.c (.put (fun E hE => .assign (lt1 rfl) (.tmp (hE.at (k := 0) rfl)))) (.n)) <| .nil _) (fun E hE => .c (DInv.at hE (k := 10) rfl rfl rfl) <| .n _) rfl ?_
  refine AWP.ret ?_
  obtain rfl := Option.some.inj h
  exact retJ (Res.vc (s' := ⟨[(2, .own 2 1 0 l2_7.length)], [(2, ⟨5, true, l2_7.flatMap enc8⟩)]⟩) (VC.sub (.c rfl <| .n _) (.c rfl <| .n _)) (Res.of rfl (.cons (.tmp rfl) (.nil)) rfl rfl))
def m7 (n : Nat) (a0 : (List UInt8)) (a1 : Int) (a2 : (List Int)) : Option Bool :=
  ((m10 n).bind fun y_1 => (if (!y_1) = true then (some false) else (asrt (a2.length = 2) ((getIdx a2 (1 : Int)).bind fun y_3 => (letM (b8 (IntKind.wrap .u8 y_3)) fun t7_4 => ((m11 n a0).bind fun y_5 => (if ((!y_5) || (decide ((t7_4.toNat : Int) = (0 : Int)))) = true then (some true) else ((m19o n a0).bind fun y_6 => (if (decide ((y_6.length : Int) = (0 : Int))) = true then (some false) else (asrt (a2.length = 2) ((getIdx a2 (0 : Int)).bind fun y_8 => (asrt ((y_6.length : Int) ≠ 0) ((getIdx y_6 ((IntKind.wrap .i64 y_8).tmod (y_6.length : Int))).bind fun y_10 => ((getIdx y_6 ((IntKind.wrap .i64 y_8).tmod (y_6.length : Int))).bind fun y_11 => ((setIdx y_6 ((IntKind.wrap .i64 y_8).tmod (y_6.length : Int)) (b8 (xorI .u8 (y_10.toNat : Int) (t7_4.toNat : Int)))).bind fun l2_12 => ((m16 n l2_12).bind fun y_13 => (if ((!decide (y_13.2 = (5 : Int))) || (decide ((0 : Int) < (y_13.1.length : Int)))) = true then (some false) else (if (decide ((a0.length : Int) = (0 : Int))) = true then (some true) else ((apd ([] : List UInt8) a0).bind fun l3_14 => (asrt (a2.length = 2) ((getIdx a2 (0 : Int)).bind fun y_16 => (asrt ((a0.length : Int) ≠ 0) ((getIdx l3_14 ((IntKind.wrap .i64 y_16).tmod (a0.length : Int))).bind fun y_18 => ((getIdx l3_14 ((IntKind.wrap .i64 y_16).tmod (a0.length : Int))).bind fun y_19 => ((setIdx l3_14 ((IntKind.wrap .i64 y_16).tmod (a0.length : Int)) (b8 (xorI .u8 (y_18.toNat : Int) (t7_4.toNat : Int)))).bind fun l3_20 => ((m14 n a1 l3_20).bind fun y_21 => ((m14 n a1 a0).bind fun y_22 => (some (!decide (y_21 = y_22))))))))))))))))))))))))))))))
theorem c7 {β1 : Bool} (n : Nat) (a0 : (List UInt8)) (a1 : Int) (a2 : (List Int)) {r : Bool} (h : m7 n a0 a1 a2 = some r) : Spec Try.prog 7 [] [.rd β1 a0.length (a0.flatMap enc8), .sc (.int .u64 a1), .agg (a2.flatMap (encI .u16))] [] (.sc (.bool r)) [] := by
  refine Spec.of (fn := Try.f7) Try.func7 Try.ntmps7 rfl rfl (le1 rfl) (fun w0 Zs Zb T0 ι0 => ?_)
  unfold m7 at h
  refine AWP.seq ?_
  refine AWP.region (.cons (.boxArr (t := 1) (lt1 rfl) (nm rfl) (.tmp rfl) (encI_still .u16)) <| .cons (.assign (lt1 rfl) (.const _ _ _)) <| ARun.nil _ _ _) ?_
  refine AWP.vc (s' := ⟨[(0, .rd β1 a0.length (a0.flatMap enc8)), (1, .sc (.int .u64 a1)), (5, .ptr 1 0)], [(1, ⟨37, true, a2.flatMap (encI .u16)⟩)]⟩) (VC.sub (.c rfl <| .c rfl <| .c rfl <| .n _) (.c rfl <| .n _)) ?_
  refine AWP.seq ?_
  refine AWP.seq ?_
  obtain ⟨y_1, hy_1, h⟩ := bindS h
  refine AWP.region (.cons (.call0 (bw := false) (lt1 rfl) (c10 n hy_1) (.nil) rfl) <| .cons (.not (lt1 rfl) (.tmp rfl)) <| ARun.nil _ _ _) ?_
  refine AWP.vc (s' := ⟨[(0, .rd β1 a0.length (a0.flatMap enc8)), (1, .sc (.int .u64 a1)), (5, .ptr 1 0), (13, .sc (.bool (!y_1)))], [(1, ⟨37, true, a2.flatMap (encI .u16)⟩)]⟩) (VC.sub (.c rfl <| .c rfl <| .c rfl <| .c rfl <| .n _) (.c rfl <| .n _)) ?_
  refine AWP.cond (.tmp rfl) (fun hc => ?_) (fun hc => ?_)
  · have h := iteT hc h
    refine AWP.seq ?_
    refine AWP.region (.cons (.assign (lt1 rfl) (.const _ _ _)) <| ARun.nil _ _ _) ?_
    refine AWP.ret ?_
    obtain rfl := Option.some.inj h
    exact retJ (Res.vc (s' := ⟨[(6, .sc (.bool false))], []⟩) (VC.sub (.c rfl <| .n _) (.n _)) (Res.drop rfl (Res.of rfl (.cons (.tmp rfl) (.nil)) rfl rfl)))
  · have h := iteF hc h
    refine AWP.skip ?_
    refine AWP.seq ?_
    obtain ⟨ha_2, h⟩ := asrtS h
    obtain ⟨y_3, hy_3, h⟩ := bindS h
    obtain ⟨t7_4, ht7_4, h⟩ := letS h
    refine AWP.region (.cons (.idxArr (lt1 rfl) (.tmp rfl) (.const _ _ _) Try.underlying37 sz36 ha_2 hy_3) <| .cons (.loadP (lt1 rfl) (.tmp rfl) one36 rfl (cell_at1 (encI_len .u16) hy_3) rfl) <| .cons (.conv (lt1 rfl) (.tmp rfl) Try.underlying36 Try.underlying5) <| .cons (.assign (lt1 rfl) (.tmp rfl)) <| ARun.nil _ _ _) ?_
    refine AWP.vc (s' := ⟨[(0, .rd β1 a0.length (a0.flatMap enc8)), (1, .sc (.int .u64 a1)), (5, .ptr 1 0), (7, .sc (.int .u8 (t7_4.toNat : Int)))], [(1, ⟨37, true, a2.flatMap (encI .u16)⟩)]⟩) (by subst ht7_4; exact VC.sub (.c rfl <| .c rfl <| .c rfl <| .c (scU8 _) <| .n _) (.c rfl <| .n _)) ?_
    refine AWP.seq ?_
    refine AWP.seq ?_
    obtain ⟨y_5, hy_5, h⟩ := bindS h
    refine AWP.region (.cons (.move (lt1 rfl) (.tmp rfl)) <| .cons (.call0 (bw := false) (lt1 rfl) (c11 (β1 := β1) n a0 hy_5) (.cons (.tmp rfl) (.ren rfl) (.nil)) rfl) <| .cons (.not (lt1 rfl) (.tmp rfl)) <| .cons (.move (lt1 rfl) (.tmp rfl)) <| .guard (j := 3) (dj := 20) rfl (lt1 rfl) rfl (lt1 rfl) (fun hg => .move (lt1 rfl) (.tmp rfl)) <| .guard (j := 3) (dj := 20) rfl (lt1 rfl) rfl (lt1 rfl) (fun hg => .eql (lt1 rfl) (.gd hg (.tmp rfl)) (.const _ _ _)) <| .cons (.pickOr (lt1 rfl) (.tmp rfl) (.const _ _ _) (.tmp rfl)) <| ARun.nil _ _ _) ?_
    refine AWP.vc (s' := ⟨[(0, .rd β1 a0.length (a0.flatMap enc8)), (1, .sc (.int .u64 a1)), (5, .ptr 1 0), (7, .sc (.int .u8 (t7_4.toNat : Int))), (23, .sc (.bool ((!y_5) || (decide ((t7_4.toNat : Int) = (0 : Int))))))], [(1, ⟨37, true, a2.flatMap (encI .u16)⟩)]⟩) (VC.sub (.c rfl <| .c rfl <| .c rfl <| .c rfl <| .c rfl <| .n _) (.c rfl <| .n _)) ?_
    refine AWP.cond (.tmp rfl) (fun hc => ?_) (fun hc => ?_)
    · have h := iteT hc h
      refine AWP.seq ?_
      refine AWP.region (.cons (.assign (lt1 rfl) (.const _ _ _)) <| ARun.nil _ _ _) ?_
      refine AWP.ret ?_
      obtain rfl := Option.some.inj h
      exact retJ (Res.vc (s' := ⟨[(6, .sc (.bool true))], []⟩) (VC.sub (.c rfl <| .n _) (.n _)) (Res.drop rfl (Res.of rfl (.cons (.tmp rfl) (.nil)) rfl rfl)))
    · have h := iteF hc h
      refine AWP.skip ?_
      refine AWP.seq ?_
      obtain ⟨y_6, hy_6, h⟩ := bindS h
      refine AWP.region (.cons (.move (lt1 rfl) (.tmp rfl)) <| .cons (.call (bw := false) (σ := fun _ => 2) (lt1 rfl) (c19o (β1 := β1) n a0 hy_6) (.cons (.tmp rfl) (.ren rfl) (.nil)) (CallOk.mk' .n rfl)) <| .cons (.assign (lt1 rfl) (.tmp rfl)) <| ARun.nil _ _ _) ?_
      refine AWP.vc (s' := ⟨[(0, .rd β1 a0.length (a0.flatMap enc8)), (1, .sc (.int .u64 a1)), (5, .ptr 1 0), (7, .sc (.int .u8 (t7_4.toNat : Int))), (8, .own 2 1 0 y_6.length)], [(2, ⟨5, true, y_6.flatMap enc8⟩), (1, ⟨37, true, a2.flatMap (encI .u16)⟩)]⟩) (VC.sub (.c rfl <| .c rfl <| .c rfl <| .c rfl <| .c rfl <| .n _) (.c rfl <| .c rfl <| .n _)) ?_
      refine AWP.seq ?_
      refine AWP.seq ?_
      refine AWP.region (.cons (.move (lt1 rfl) (.tmp rfl)) <| .cons (.lenOwn (lt1 rfl) (.tmp rfl) Try.underlying22) <| .cons (.eql (lt1 rfl) (.tmp rfl) (.const _ _ _)) <| ARun.nil _ _ _) ?_
      refine AWP.vc (s' := ⟨[(0, .rd β1 a0.length (a0.flatMap enc8)), (1, .sc (.int .u64 a1)), (5, .ptr 1 0), (7, .sc (.int .u8 (t7_4.toNat : Int))), (8, .own 2 1 0 y_6.length), (28, .sc (.bool (decide ((y_6.length : Int) = (0 : Int)))))], [(2, ⟨5, true, y_6.flatMap enc8⟩), (1, ⟨37, true, a2.flatMap (encI .u16)⟩)]⟩) (VC.sub (.c rfl <| .c rfl <| .c rfl <| .c rfl <| .c rfl <| .c rfl <| .n _) (.c rfl <| .c rfl <| .n _)) ?_
      refine AWP.cond (.tmp rfl) (fun hc => ?_) (fun hc => ?_)
      · have h := iteT hc h
        refine AWP.seq ?_
        refine AWP.region (.cons (.assign (lt1 rfl) (.const _ _ _)) <| ARun.nil _ _ _) ?_
        refine AWP.ret ?_
        obtain rfl := Option.some.inj h
        exact retJ (Res.vc (s' := ⟨[(6, .sc (.bool false))], []⟩) (VC.sub (.c rfl <| .n _) (.n _)) (Res.drop rfl (Res.of rfl (.cons (.tmp rfl) (.nil)) rfl rfl)))
      · have h := iteF hc h
        refine AWP.skip ?_
        refine AWP.seq ?_
        obtain ⟨ha_7, h⟩ := asrtS h
        obtain ⟨y_8, hy_8, h⟩ := bindS h
        obtain ⟨ha_9, h⟩ := asrtS h
        obtain ⟨y_10, hy_10, h⟩ := bindS h
        obtain ⟨y_11, hy_11, h⟩ := bindS h
        obtain ⟨l2_12, hl2_12, h⟩ := bindS h
        refine AWP.region (.cons (.move (lt1 rfl) (.tmp rfl)) <| .cons (.idxArr (lt1 rfl) (.tmp rfl) (.const _ _ _) Try.underlying37 sz36 ha_7 hy_8) <| .cons (.loadP (lt1 rfl) (.tmp rfl) one36 rfl (cell_at1 (encI_len .u16) hy_8) rfl) <| .cons (.conv (lt1 rfl) (.tmp rfl) Try.underlying36 Try.underlying3) <| .cons (.move (lt1 rfl) (.tmp rfl)) <| .cons (.lenOwn (lt1 rfl) (.tmp rfl) Try.underlying22) <| .cons (.rem (lt1 rfl) (.tmp rfl) (.tmp rfl) ha_9) <| .cons (.idxOwn (lt1 rfl) (.tmp rfl) (.tmp rfl) Try.underlying22 sz5 rfl hy_10) <| .cons (.loadP (lt1 rfl) (.tmp rfl) one5 rfl (cell_at1 enc8_len hy_10) rfl) <| .cons (.move (lt1 rfl) (.tmp rfl)) <| .cons (.bxor (lt1 rfl) (.tmp rfl) (.tmp rfl)) <| .cons (.idxOwn (lt1 rfl) (.tmp rfl) (.tmp rfl) Try.underlying22 sz5 rfl hy_11) <| .cons (.storeP (.tmp rfl) (.tmp rfl) sz5 rfl (lt_at1 enc8_len hy_11) rfl (fun _ => rfl) (set_at1 enc8_len hl2_12 (enc8_wrap _))) <| ARun.nil _ _ _) ?_
        refine AWP.vc (s' := ⟨[(0, .rd β1 a0.length (a0.flatMap enc8)), (1, .sc (.int .u64 a1)), (5, .ptr 1 0), (7, .sc (.int .u8 (t7_4.toNat : Int))), (8, .own 2 1 0 l2_12.length)], [(2, ⟨5, true, l2_12.flatMap enc8⟩), (1, ⟨37, true, a2.flatMap (encI .u16)⟩)]⟩) (VC.sub (.c rfl <| .c rfl <| .c rfl <| .c rfl <| .c (lenC (Eq.symm (setLen hl2_12)) rfl) <| .n _) (.c rfl <| .c rfl <| .n _)) ?_
        refine AWP.seq ?_
        refine AWP.seq ?_
        obtain ⟨y_13, hy_13, h⟩ := bindS h
        refine AWP.region (.cons (.move (lt1 rfl) (.tmp rfl)) <| .cons (.call0 (bw := true) (lt1 rfl) (c16 (β1 := true) n l2_12 hy_13) (.cons (.tmp rfl) (.lendRow rfl rfl enc8_len rfl) (.nil)) rfl) <| .cons (.move (lt1 rfl) (.tmp rfl)) <| .cons (.extract (lt1 rfl) (.tmp rfl) rfl) <| .cons (.extract (lt1 rfl) (.tmp rfl) rfl) <| .cons (.assign (lt1 rfl) (.tmp rfl)) <| .cons (.assign (lt1 rfl) (.tmp rfl)) <| ARun.nil _ _ _) ?_
        refine AWP.vc (s' := ⟨[(0, .rd β1 a0.length (a0.flatMap enc8)), (1, .sc (.int .u64 a1)), (5, .ptr 1 0), (7, .sc (.int .u8 (t7_4.toNat : Int))), (9, .rd false y_13.1.length (y_13.1.flatMap enc8)), (10, .sc (.int .i64 y_13.2))], [(1, ⟨37, true, a2.flatMap (encI .u16)⟩)]⟩) (VC.sub (.c rfl <| .c rfl <| .c rfl <| .c rfl <| .c rfl <| .c rfl <| .n _) (.c rfl <| .n _)) ?_
        refine AWP.seq ?_
        refine AWP.region (.cons (.move (lt1 rfl) (.tmp rfl)) <| .cons (.neq (lt1 rfl) (.tmp rfl) (.const _ _ _)) <| .cons (.move (lt1 rfl) (.tmp rfl)) <| .guard (j := 2) (dj := 48) rfl (lt1 rfl) rfl (lt1 rfl) (fun hg => .move (lt1 rfl) (.tmp rfl)) <| .guard (j := 2) (dj := 48) rfl (lt1 rfl) rfl (lt1 rfl) (fun hg => .lenRd (lt1 rfl) (.gd hg (.tmp rfl)) Try.underlying22) <| .guard (j := 2) (dj := 48) rfl (lt1 rfl) rfl (lt1 rfl) (fun hg => .gtr (lt1 rfl) (.gd hg (.tmp rfl)) (.const _ _ _)) <| .cons (.pickOr (lt1 rfl) (.tmp rfl) (.const _ _ _) (.tmp rfl)) <| ARun.nil _ _ _) ?_
        refine AWP.vc (s' := ⟨[(0, .rd β1 a0.length (a0.flatMap enc8)), (1, .sc (.int .u64 a1)), (5, .ptr 1 0), (7, .sc (.int .u8 (t7_4.toNat : Int))), (52, .sc (.bool ((!decide (y_13.2 = (5 : Int))) || (decide ((0 : Int) < (y_13.1.length : Int))))))], [(1, ⟨37, true, a2.flatMap (encI .u16)⟩)]⟩) (VC.sub (.c rfl <| .c rfl <| .c rfl <| .c rfl <| .c rfl <| .n _) (.c rfl <| .n _)) ?_
        refine AWP.cond (.tmp rfl) (fun hc => ?_) (fun hc => ?_)
        · have h := iteT hc h
          refine AWP.seq ?_
          refine AWP.region (.cons (.assign (lt1 rfl) (.const _ _ _)) <| ARun.nil _ _ _) ?_
          refine AWP.ret ?_
          obtain rfl := Option.some.inj h
          exact retJ (Res.vc (s' := ⟨[(6, .sc (.bool false))], []⟩) (VC.sub (.c rfl <| .n _) (.n _)) (Res.drop rfl (Res.of rfl (.cons (.tmp rfl) (.nil)) rfl rfl)))
        · have h := iteF hc h
          refine AWP.skip ?_
          refine AWP.seq ?_
          refine AWP.seq ?_
          refine AWP.region (.cons (.move (lt1 rfl) (.tmp rfl)) <| .cons (.lenRd (lt1 rfl) (.tmp rfl) Try.underlying22) <| .cons (.eql (lt1 rfl) (.tmp rfl) (.const _ _ _)) <| ARun.nil _ _ _) ?_
          refine AWP.vc (s' := ⟨[(0, .rd β1 a0.length (a0.flatMap enc8)), (1, .sc (.int .u64 a1)), (5, .ptr 1 0), (7, .sc (.int .u8 (t7_4.toNat : Int))), (55, .sc (.bool (decide ((a0.length : Int) = (0 : Int)))))], [(1, ⟨37, true, a2.flatMap (encI .u16)⟩)]⟩) (VC.sub (.c rfl <| .c rfl <| .c rfl <| .c rfl <| .c rfl <| .n _) (.c rfl <| .n _)) ?_
          refine AWP.cond (.tmp rfl) (fun hc => ?_) (fun hc => ?_)
          · have h := iteT hc h
            refine AWP.seq ?_
            refine AWP.region (.cons (.assign (lt1 rfl) (.const _ _ _)) <| ARun.nil _ _ _) ?_
            refine AWP.ret ?_
            obtain rfl := Option.some.inj h
            exact retJ (Res.vc (s' := ⟨[(6, .sc (.bool true))], []⟩) (VC.sub (.c rfl <| .n _) (.n _)) (Res.drop rfl (Res.of rfl (.cons (.tmp rfl) (.nil)) rfl rfl)))
          · have h := iteF hc h
            refine AWP.skip ?_
            refine AWP.seq ?_
            obtain ⟨l3_14, hl3_14, h⟩ := bindS h
            refine AWP.region (.cons (.buildSlice (t := 3) (out := ([] : List UInt8).flatMap enc8) (lt1 rfl) (nm rfl) (.nil) Try.underlying22 zero5 el5 (by decide) (by decide) rfl (still_all enc8_still _)) <| .cons (.move (lt1 rfl) (.tmp rfl)) <| .cons (.app (enc := enc8) (lt1 rfl) (nm rfl) (.tmp rfl) (Src.rd (.tmp rfl) (flatMap_length enc8_len _) (one_all enc8_one _) (.inr (scal_all enc8_scal _))) Try.underlying22 ⟨_, Try.underlying22, by intro k hk; cases hk⟩ el5 rfl enc8_len rfl rfl (by decide) hl3_14) <| .cons (.assign (lt1 rfl) (.tmp rfl)) <| ARun.nil _ _ _) ?_
            refine AWP.vc (s' := ⟨[(0, .rd β1 a0.length (a0.flatMap enc8)), (1, .sc (.int .u64 a1)), (5, .ptr 1 0), (7, .sc (.int .u8 (t7_4.toNat : Int))), (11, .own 3 1 0 l3_14.length)], [(3, ⟨5, true, l3_14.flatMap enc8⟩), (1, ⟨37, true, a2.flatMap (encI .u16)⟩)]⟩) (VC.sub (.c rfl <| .c rfl <| .c rfl <| .c rfl <| .c rfl <| .n _) (.c rfl <| .c rfl <| .n _)) ?_
            refine AWP.seq ?_
            obtain ⟨ha_15, h⟩ := asrtS h
            obtain ⟨y_16, hy_16, h⟩ := bindS h
            obtain ⟨ha_17, h⟩ := asrtS h
            obtain ⟨y_18, hy_18, h⟩ := bindS h
            obtain ⟨y_19, hy_19, h⟩ := bindS h
            obtain ⟨l3_20, hl3_20, h⟩ := bindS h
            refine AWP.region (.cons (.move (lt1 rfl) (.tmp rfl)) <| .cons (.idxArr (lt1 rfl) (.tmp rfl) (.const _ _ _) Try.underlying37 sz36 ha_15 hy_16) <| .cons (.loadP (lt1 rfl) (.tmp rfl) one36 rfl (cell_at1 (encI_len .u16) hy_16) rfl) <| .cons (.conv (lt1 rfl) (.tmp rfl) Try.underlying36 Try.underlying3) <| .cons (.move (lt1 rfl) (.tmp rfl)) <| .cons (.lenRd (lt1 rfl) (.tmp rfl) Try.underlying22) <| .cons (.rem (lt1 rfl) (.tmp rfl) (.tmp rfl) ha_17) <| .cons (.idxOwn (lt1 rfl) (.tmp rfl) (.tmp rfl) Try.underlying22 sz5 rfl hy_18) <| .cons (.loadP (lt1 rfl) (.tmp rfl) one5 rfl (cell_at1 enc8_len hy_18) rfl) <| .cons (.move (lt1 rfl) (.tmp rfl)) <| .cons (.bxor (lt1 rfl) (.tmp rfl) (.tmp rfl)) <| .cons (.idxOwn (lt1 rfl) (.tmp rfl) (.tmp rfl) Try.underlying22 sz5 rfl hy_19) <| .cons (.storeP (.tmp rfl) (.tmp rfl) sz5 rfl (lt_at1 enc8_len hy_19) rfl (fun _ => rfl) (set_at1 enc8_len hl3_20 (enc8_wrap _))) <| ARun.nil _ _ _) ?_
            refine AWP.vc (s' := ⟨[(0, .rd β1 a0.length (a0.flatMap enc8)), (1, .sc (.int .u64 a1)), (11, .own 3 1 0 l3_20.length)], [(3, ⟨5, true, l3_20.flatMap enc8⟩)]⟩) (VC.sub (.c rfl <| .c rfl <| .c (lenC (Eq.symm (setLen hl3_20)) rfl) <| .n _) (.c rfl <| .n _)) ?_
            refine AWP.seq ?_
            obtain ⟨y_21, hy_21, h⟩ := bindS h
            obtain ⟨y_22, hy_22, h⟩ := bindS h
            refine AWP.region (.cons (.move (lt1 rfl) (.tmp rfl)) <| .cons (.move (lt1 rfl) (.tmp rfl)) <| .cons (.call0 (bw := true) (lt1 rfl) (c14 (β1 := true) n a1 l3_20 hy_21) (.cons (.tmp rfl) (.ren rfl) (.cons (.tmp rfl) (.lendRow rfl rfl enc8_len rfl) (.nil))) rfl) <| .cons (.move (lt1 rfl) (.tmp rfl)) <| .cons (.move (lt1 rfl) (.tmp rfl)) <| .cons (.call0 (bw := false) (lt1 rfl) (c14 (β1 := β1) n a1 a0 hy_22) (.cons (.tmp rfl) (.ren rfl) (.cons (.tmp rfl) (.ren rfl) (.nil))) rfl) <| .cons (.neq (lt1 rfl) (.tmp rfl) (.tmp rfl)) <| .cons (.assign (lt1 rfl) (.tmp rfl)) <| ARun.nil _ _ _) ?_
            refine AWP.ret ?_
            obtain rfl := Option.some.inj h
            exact retJ (Res.vc (s' := ⟨[(6, .sc (.bool (!decide (y_21 = y_22))))], []⟩) (VC.sub (.c rfl <| .n _) (.n _)) (Res.drop rfl (Res.of rfl (.cons (.tmp rfl) (.nil)) rfl rfl)))
end Go.AB
