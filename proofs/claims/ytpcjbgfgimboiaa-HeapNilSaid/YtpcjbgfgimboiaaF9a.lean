import Derived.Test.YtpcjbgfgimboiaaProg
import Derived.Test.YtpcjbgfgimboiaaD
import Derived.KernelRfl
set_option linter.unusedVariables false
namespace Go.AB
open Go Go.Proofs
theorem c38 (n : Nat) {r : R89} (h : m38 n = some r) : Spec Try.prog 38 [] [.clo (.func 31) [] []] [] (.ptr 1 0) [(91, ⟨92, true, r.l.flatMap encR91⟩), (1, ⟨90, false, [.clo (.func 31) [] [], .own 91 2 0 r.l.length, .sc (.int .i64 r.pushed)]⟩)] := by
  refine Spec.of (fn := Try.f38) Try.func38 Try.ntmps38 rfl rfl (le1 rfl) (fun w0 Zs Zb T0 ι0 => ?_)
  unfold m38 at h
  refine AWP.seq ?_
  refine AWP.region (.cons (.assign (lt1 rfl) (.const _ _ _)) <| ARun.nil _ _ _) ?_
  refine AWP.vc (s' := ⟨[(0, .clo (.func 31) [] [])], []⟩) (VC.sub (.c rfl <| .n _) (.n _)) ?_
  refine AWP.seq ?_
  refine AWP.seq ?_
  refine AWP.region (.cons (.move (lt1 rfl) (.tmp rfl)) <| .cons (.funNil0 (lt1 rfl) (.tmp rfl) Try.underlying64) <| ARun.nil _ _ _) ?_
  refine AWP.vc (s' := ⟨[(0, .clo (.func 31) [] []), (4, .sc (.bool false))], []⟩) (VC.sub (.c rfl <| .c rfl <| .n _) (.n _)) ?_
  refine AWP.cond (.tmp rfl) (fun hc => by cases hc) (fun _ => ?_)
  refine AWP.skip ?_
  refine AWP.seq ?_
  refine AWP.region (.cons (.move (lt1 rfl) (.tmp rfl)) <| .cons (.buildO (offs := [(0, 1), (1, 1), (2, 1)]) (lt1 rfl) (.cons (.tmp rfl) (by first | exact ⟨rfl, rfl⟩ | rfl) (.nil)) zero90 offs90 rfl) <| .cons (.box (t := 1) (n := 3) (lt1 rfl) (nm rfl) (.tmp rfl) (by first | exact ⟨rfl, rfl⟩ | rfl) rfl) <| .cons (.assign (lt1 rfl) (.tmp rfl)) <| ARun.nil _ _ _) ?_
  refine AWP.ret ?_
  obtain rfl := Option.some.inj h
  refine retJ (Res.vc (s' := ⟨[(2, .ptr 1 0)], [(91, ⟨92, true, ([] : List R91).flatMap encR91⟩), (1, ⟨90, false, [.clo (.func 31) [] [], .own 91 2 0 ([] : List R91).length, .sc (.int .i64 (0 : Int))]⟩)]⟩) (VC.trans (VC.trans (VC.newTag (t := 91) (E := 92) (nm rfl)) (VC.cell (t := 1) (i := 1) (v' := .own 91 2 0 0) rfl rfl rfl (fun _ _ _ _ h => nil_own h))) (VC.sub (.c rfl <| .n _) (.c rfl <| .c rfl <| .n _))) ?_)
  refine Res.sub (H := [(91, ⟨92, true, ([] : List R91).flatMap encR91⟩), (1, ⟨90, false, [.clo (.func 31) [] [], .own 91 2 0 ([] : List R91).length, .sc (.int .i64 (0 : Int))]⟩)]) (.c rfl <| .c rfl <| .n _) ?_
  exact Res.of rfl (.cons (.tmp rfl) (.nil)) rfl rfl
theorem c31 (n : Nat) (a0 : Int) (a1 : Int) {r : Bool} (h : m31 n a0 a1 = some r) : Spec Try.prog 31 [] [.sc (.int .i64 a0), .sc (.int .i64 a1)] [] (.sc (.bool r)) [] := by
  refine Spec.of (fn := Try.f31) Try.func31 Try.ntmps31 rfl rfl (le1 rfl) (fun w0 Zs Zb T0 ι0 => ?_)
  unfold m31 at h
  refine AWP.seq ?_
  refine AWP.region (.cons (.assign (lt1 rfl) (.const _ _ _)) <| ARun.nil _ _ _) ?_
  refine AWP.vc (s' := ⟨[(0, .sc (.int .i64 a0)), (1, .sc (.int .i64 a1))], []⟩) (VC.sub (.c rfl <| .c rfl <| .n _) (.n _)) ?_
  refine AWP.seq ?_
  refine AWP.region (.cons (.move (lt1 rfl) (.tmp rfl)) <| .cons (.quo (lt1 rfl) (.tmp rfl) (.const _ _ _) (by decide)) <| .cons (.move (lt1 rfl) (.tmp rfl)) <| .cons (.quo (lt1 rfl) (.tmp rfl) (.const _ _ _) (by decide)) <| .cons (.lss (lt1 rfl) (.tmp rfl) (.tmp rfl)) <| .cons (.assign (lt1 rfl) (.tmp rfl)) <| ARun.nil _ _ _) ?_
  refine AWP.ret ?_
  obtain rfl := Option.some.inj h
  refine retJ (Res.vc (s' := ⟨[(4, .sc (.bool (decide ((IntKind.wrap .i64 (a0.tdiv (10 : Int))) < (IntKind.wrap .i64 (a1.tdiv (10 : Int)))))))], []⟩) (VC.sub (.c rfl <| .n _) (.n _)) ?_)
  refine Res.drop (H := []) rfl ?_
  exact Res.of rfl (.cons (.tmp rfl) (.nil)) rfl rfl
theorem c43 (n : Nat) (a0_b1_b : (List R91)) (a0_b2 : Int) (a1 : Int) (a2 : Int) {r : Bool} (h : m43 n a0_b1_b a0_b2 a1 a2 = some r) : Spec Try.prog 43 [1, 2] [.ptr 1 0, .sc (.int .i64 a1), .sc (.int .i64 a2)] [(1, ⟨90, false, [.clo (.func 31) [] [], .own 2 2 0 a0_b1_b.length, .sc (.int .i64 a0_b2)]⟩), (2, ⟨92, true, a0_b1_b.flatMap encR91⟩)] (.sc (.bool r)) [(1, ⟨90, false, [.clo (.func 31) [] [], .own 2 2 0 a0_b1_b.length, .sc (.int .i64 a0_b2)]⟩), (2, ⟨92, true, a0_b1_b.flatMap encR91⟩)] := by
  refine Spec.of (fn := Try.f43) Try.func43 Try.ntmps43 rfl rfl (le1 rfl) (fun w0 Zs Zb T0 ι0 => ?_)
  unfold m43 at h
  refine AWP.seq ?_
  refine AWP.region (.cons (.assign (lt1 rfl) (.const _ _ _)) <| ARun.nil _ _ _) ?_
  refine AWP.vc (s' := ⟨[(0, .ptr 1 0), (1, .sc (.int .i64 a1)), (2, .sc (.int .i64 a2))], [(1, ⟨90, false, [.clo (.func 31) [] [], .own 2 2 0 a0_b1_b.length, .sc (.int .i64 a0_b2)]⟩), (2, ⟨92, true, a0_b1_b.flatMap encR91⟩)]⟩) (VC.sub (.c rfl <| .c rfl <| .c rfl <| .n _) (.c rfl <| .c rfl <| .n _)) ?_
  refine AWP.seq ?_
  obtain ⟨y_1, hy_1, h⟩ := bindS h
  obtain ⟨y_2, hy_2, h⟩ := bindS h
  refine AWP.drawN (s' := ⟨[(0, .ptr 1 0), (7, .ptr 3 0), (8, .ptr 4 0)], [(4, ⟨92, false, [.sc (.int .i64 y_2.x), .sc (.int .i64 y_2.number)]⟩), (3, ⟨92, false, [.sc (.int .i64 y_1.x), .sc (.int .i64 y_1.number)]⟩), (1, ⟨90, false, [.clo (.func 31) [] [], .own 2 2 0 a0_b1_b.length, .sc (.int .i64 a0_b2)]⟩), (2, ⟨92, true, a0_b1_b.flatMap encR91⟩)]⟩) mixed [⟨0, .ptr 1 0, none, []⟩, ⟨1, .sc (.int .i64 a1), none, []⟩, ⟨2, .sc (.int .i64 a2), none, []⟩, ⟨9, .ptr 1 0, some 0, []⟩, ⟨10, .ptr 1 0, some 1, []⟩, ⟨11, .ptr 1 (0 + 1), some 2, []⟩, ⟨12, .own 2 2 0 a0_b1_b.length, some 3, []⟩, ⟨13, .sc (.int .i64 a1), some 4, []⟩, ⟨14, .ptr 2 (0 + (a1).toNat * 2), some 5, []⟩, ⟨15, .agg [.sc (.int .i64 y_1.x), .sc (.int .i64 y_1.number)], some 6, []⟩, ⟨16, .ptr 1 0, some 7, []⟩, ⟨17, .ptr 1 0, some 8, []⟩, ⟨18, .ptr 1 (0 + 1), some 9, []⟩, ⟨19, .own 2 2 0 a0_b1_b.length, some 10, []⟩, ⟨20, .sc (.int .i64 a2), some 11, []⟩, ⟨21, .ptr 2 (0 + (a2).toNat * 2), some 12, []⟩, ⟨22, .agg [.sc (.int .i64 y_2.x), .sc (.int .i64 y_2.number)], some 13, []⟩, ⟨7, .ptr 3 0, some 14, []⟩, ⟨8, .ptr 4 0, some 15, []⟩] [⟨[0], 0, 0, some (9, .ptr 1 0), []⟩, ⟨[3], 0, 0, some (10, .ptr 1 0), []⟩, ⟨[4], 0, 0, some (11, .ptr 1 (0 + 1)), []⟩, ⟨[5], 0, 0, some (12, .own 2 2 0 a0_b1_b.length), []⟩, ⟨[1], 0, 0, some (13, .sc (.int .i64 a1)), []⟩, ⟨[6, 7], 0, 0, some (14, .ptr 2 (0 + (a1).toNat * 2)), []⟩, ⟨[8], 0, 0, some (15, .agg [.sc (.int .i64 y_1.x), .sc (.int .i64 y_1.number)]), []⟩, ⟨[0], 0, 0, some (16, .ptr 1 0), []⟩, ⟨[10], 0, 0, some (17, .ptr 1 0), []⟩, ⟨[11], 0, 0, some (18, .ptr 1 (0 + 1)), []⟩, ⟨[12], 0, 0, some (19, .own 2 2 0 a0_b1_b.length), []⟩, ⟨[2], 0, 0, some (20, .sc (.int .i64 a2)), []⟩, ⟨[13, 14], 0, 0, some (21, .ptr 2 (0 + (a2).toNat * 2)), []⟩, ⟨[15], 0, 0, some (22, .agg [.sc (.int .i64 y_2.x), .sc (.int .i64 y_2.number)]), []⟩, ⟨[], 0, 0, some (7, .ptr 3 0), [3]⟩, ⟨[], 0, 0, some (8, .ptr 4 0), [4]⟩, ⟨[17, 9], 0, 0, none, []⟩, ⟨[18, 16], 0, 0, none, []⟩] [14, 15, 16, 17] [([], [(1, ⟨90, false, [.clo (.func 31) [] [], .own 2 2 0 a0_b1_b.length, .sc (.int .i64 a0_b2)]⟩), (2, ⟨92, true, a0_b1_b.flatMap encR91⟩)]), ([14], [(3, ⟨92, false, [.sc (.int .i64 (0 : Int)), .sc (.int .i64 (0 : Int))]⟩), (1, ⟨90, false, [.clo (.func 31) [] [], .own 2 2 0 a0_b1_b.length, .sc (.int .i64 a0_b2)]⟩), (2, ⟨92, true, a0_b1_b.flatMap encR91⟩)]), ([15], [(4, ⟨92, false, [.sc (.int .i64 (0 : Int)), .sc (.int .i64 (0 : Int))]⟩), (1, ⟨90, false, [.clo (.func 31) [] [], .own 2 2 0 a0_b1_b.length, .sc (.int .i64 a0_b2)]⟩), (2, ⟨92, true, a0_b1_b.flatMap encR91⟩)]), ([14, 15], [(4, ⟨92, false, [.sc (.int .i64 (0 : Int)), .sc (.int .i64 (0 : Int))]⟩), (3, ⟨92, false, [.sc (.int .i64 (0 : Int)), .sc (.int .i64 (0 : Int))]⟩), (1, ⟨90, false, [.clo (.func 31) [] [], .own 2 2 0 a0_b1_b.length, .sc (.int .i64 a0_b2)]⟩), (2, ⟨92, true, a0_b1_b.flatMap encR91⟩)]), ([14, 15, 16], [(4, ⟨92, false, [.sc (.int .i64 (0 : Int)), .sc (.int .i64 (0 : Int))]⟩), (3, ⟨92, false, [.sc (.int .i64 y_1.x), .sc (.int .i64 y_1.number)]⟩), (1, ⟨90, false, [.clo (.func 31) [] [], .own 2 2 0 a0_b1_b.length, .sc (.int .i64 a0_b2)]⟩), (2, ⟨92, true, a0_b1_b.flatMap encR91⟩)]), ([14, 15, 16, 17], [(4, ⟨92, false, [.sc (.int .i64 y_2.x), .sc (.int .i64 y_2.number)]⟩), (3, ⟨92, false, [.sc (.int .i64 y_1.x), .sc (.int .i64 y_1.number)]⟩), (1, ⟨90, false, [.clo (.func 31) [] [], .own 2 2 0 a0_b1_b.length, .sc (.int .i64 a0_b2)]⟩), (2, ⟨92, true, a0_b1_b.flatMap encR91⟩)])] [[], [0], [0, 1], [0, 1, 2], [], [0, 1, 2, 3, 4], [0, 1, 2, 3, 4, 5], [], [7], [7, 8], [7, 8, 9], [], [7, 8, 9, 10, 11], [7, 8, 9, 10, 11, 12], [], [], [0, 1, 2, 3, 4, 5, 6, 14, 15], [0, 1, 2, 3, 4, 5, 6, 7, 8, 9, 10, 11, 12, 13, 14, 15, 16]] (by kernel_rfl) (by kernel_rfl) (BornL.ok (.o <| .o <| .o <| .b rfl rfl <| .b rfl rfl <| .b rfl rfl <| .b rfl rfl <| .b rfl rfl <| .b rfl rfl <| .b rfl rfl <| .b rfl rfl <| .b rfl rfl <| .b rfl rfl <| .b rfl rfl <| .b rfl rfl <| .b rfl rfl <| .b rfl rfl <| .b rfl rfl <| .b rfl rfl <| .n)) (BaseL.ok (.o rfl <| .o rfl <| .o rfl <| .b <| .b <| .b <| .b <| .b <| .b <| .b <| .b <| .b <| .b <| .b <| .b <| .b <| .b <| .b <| .b <| .n)) rfl (allLt rfl) (.each (.c (.stay rfl (.put (fun E hE => .move (lt1 rfl) (.tmp (hE.at (k := 0) rfl))))) <| .c (.stay rfl (.put (fun E hE => .move (lt1 rfl) (.tmp (hE.at (k := 0) rfl))))) <| .c (.stay rfl (.put (fun E hE => .move (lt1 rfl) (.tmp (hE.at (k := 0) rfl))))) <| .c (.stay rfl (.put (fun E hE => .move (lt1 rfl) (.tmp (hE.at (k := 0) rfl))))) <| .c (.bad rfl) <| .c (.bad rfl) <| .n) <| .each (.c (.stay rfl (.put (fun E hE => .nilCheck (lt1 rfl) (.tmp (hE.at (k := 0) rfl)) trivial))) <| .c (.stay rfl (.put (fun E hE => .nilCheck (lt1 rfl) (.tmp (hE.at (k := 0) rfl)) trivial))) <| .c (.stay rfl (.put (fun E hE => .nilCheck (lt1 rfl) (.tmp (hE.at (k := 0) rfl)) trivial))) <| .c (.stay rfl (.put (fun E hE => .nilCheck (lt1 rfl) (.tmp (hE.at (k := 0) rfl)) trivial))) <| .c (.bad rfl) <| .c (.bad rfl) <| .n) <| .each (.c (.stay rfl (.put (fun E hE => .fieldP (lt1 rfl) (.tmp (hE.at (k := 0) rfl)) fld90_1))) <| .c (.stay rfl (.put (fun E hE => .fieldP (lt1 rfl) (.tmp (hE.at (k := 0) rfl)) fld90_1))) <| .c (.stay rfl (.put (fun E hE => .fieldP (lt1 rfl) (.tmp (hE.at (k := 0) rfl)) fld90_1))) <| .c (.stay rfl (.put (fun E hE => .fieldP (lt1 rfl) (.tmp (hE.at (k := 0) rfl)) fld90_1))) <| .c (.bad rfl) <| .c (.bad rfl) <| .n) <| .each (.c (.stay rfl (.put (fun E hE => .loadP (lt1 rfl) (.tmp (hE.at (k := 0) rfl)) one88 rfl rfl rfl))) <| .c (.stay rfl (.put (fun E hE => .loadP (lt1 rfl) (.tmp (hE.at (k := 0) rfl)) one88 rfl rfl rfl))) <| .c (.stay rfl (.put (fun E hE => .loadP (lt1 rfl) (.tmp (hE.at (k := 0) rfl)) one88 rfl rfl rfl))) <| .c (.stay rfl (.put (fun E hE => .loadP (lt1 rfl) (.tmp (hE.at (k := 0) rfl)) one88 rfl rfl rfl))) <| .c (.bad rfl) <| .c (.bad rfl) <| .n) <| .pure rfl (fun H => .put (fun E hE => .move (lt1 rfl) (.tmp (hE.at (k := 0) rfl)))) <| .each (.c (.stay rfl (.put (fun E hE => .idxOwn (lt1 rfl) (.tmp (hE.at (k := 0) rfl)) (.tmp (hE.at (k := 1) rfl)) Try.underlying88 sz92 rfl hy_1))) <| .c (.stay rfl (.put (fun E hE => .idxOwn (lt1 rfl) (.tmp (hE.at (k := 0) rfl)) (.tmp (hE.at (k := 1) rfl)) Try.underlying88 sz92 rfl hy_1))) <| .c (.stay rfl (.put (fun E hE => .idxOwn (lt1 rfl) (.tmp (hE.at (k := 0) rfl)) (.tmp (hE.at (k := 1) rfl)) Try.underlying88 sz92 rfl hy_1))) <| .c (.stay rfl (.put (fun E hE => .idxOwn (lt1 rfl) (.tmp (hE.at (k := 0) rfl)) (.tmp (hE.at (k := 1) rfl)) Try.underlying88 sz92 rfl hy_1))) <| .c (.bad rfl) <| .c (.bad rfl) <| .n) <| .each (.c (.stay rfl (.put (fun E hE => .loadPA (lt1 rfl) (.tmp (hE.at (k := 0) rfl)) agg92 rfl (cells_at encR91_len hy_1) rfl rfl))) <| .c (.stay rfl (.put (fun E hE => .loadPA (lt1 rfl) (.tmp (hE.at (k := 0) rfl)) agg92 rfl (cells_at encR91_len hy_1) rfl rfl))) <| .c (.stay rfl (.put (fun E hE => .loadPA (lt1 rfl) (.tmp (hE.at (k := 0) rfl)) agg92 rfl (cells_at encR91_len hy_1) rfl rfl))) <| .c (.stay rfl (.put (fun E hE => .loadPA (lt1 rfl) (.tmp (hE.at (k := 0) rfl)) agg92 rfl (cells_at encR91_len hy_1) rfl rfl))) <| .c (.bad rfl) <| .c (.bad rfl) <| .n) <| .each (.c (.stay rfl (.put (fun E hE => .move (lt1 rfl) (.tmp (hE.at (k := 0) rfl))))) <| .c (.stay rfl (.put (fun E hE => .move (lt1 rfl) (.tmp (hE.at (k := 0) rfl))))) <| .c (.stay rfl (.put (fun E hE => .move (lt1 rfl) (.tmp (hE.at (k := 0) rfl))))) <| .c (.stay rfl (.put (fun E hE => .move (lt1 rfl) (.tmp (hE.at (k := 0) rfl))))) <| .c (.stay rfl (.put (fun E hE => .move (lt1 rfl) (.tmp (hE.at (k := 0) rfl))))) <| .c (.bad rfl) <| .n) <| .each (.c (.stay rfl (.put (fun E hE => .nilCheck (lt1 rfl) (.tmp (hE.at (k := 0) rfl)) trivial))) <| .c (.stay rfl (.put (fun E hE => .nilCheck (lt1 rfl) (.tmp (hE.at (k := 0) rfl)) trivial))) <| .c (.stay rfl (.put (fun E hE => .nilCheck (lt1 rfl) (.tmp (hE.at (k := 0) rfl)) trivial))) <| .c (.stay rfl (.put (fun E hE => .nilCheck (lt1 rfl) (.tmp (hE.at (k := 0) rfl)) trivial))) <| .c (.stay rfl (.put (fun E hE => .nilCheck (lt1 rfl) (.tmp (hE.at (k := 0) rfl)) trivial))) <| .c (.bad rfl) <| .n) <| .each (.c (.stay rfl (.put (fun E hE => .fieldP (lt1 rfl) (.tmp (hE.at (k := 0) rfl)) fld90_1))) <| .c (.stay rfl (.put (fun E hE => .fieldP (lt1 rfl) (.tmp (hE.at (k := 0) rfl)) fld90_1))) <| .c (.stay rfl (.put (fun E hE => .fieldP (lt1 rfl) (.tmp (hE.at (k := 0) rfl)) fld90_1))) <| .c (.stay rfl (.put (fun E hE => .fieldP (lt1 rfl) (.tmp (hE.at (k := 0) rfl)) fld90_1))) <| .c (.stay rfl (.put (fun E hE => .fieldP (lt1 rfl) (.tmp (hE.at (k := 0) rfl)) fld90_1))) <| .c (.bad rfl) <| .n) <| .each (.c (.stay rfl (.put (fun E hE => .loadP (lt1 rfl) (.tmp (hE.at (k := 0) rfl)) one88 rfl rfl rfl))) <| .c (.stay rfl (.put (fun E hE => .loadP (lt1 rfl) (.tmp (hE.at (k := 0) rfl)) one88 rfl rfl rfl))) <| .c (.stay rfl (.put (fun E hE => .loadP (lt1 rfl) (.tmp (hE.at (k := 0) rfl)) one88 rfl rfl rfl))) <| .c (.stay rfl (.put (fun E hE => .loadP (lt1 rfl) (.tmp (hE.at (k := 0) rfl)) one88 rfl rfl rfl))) <| .c (.stay rfl (.put (fun E hE => .loadP (lt1 rfl) (.tmp (hE.at (k := 0) rfl)) one88 rfl rfl rfl))) <| .c (.bad rfl) <| .n) <| .pure rfl (fun H => .put (fun E hE => .move (lt1 rfl) (.tmp (hE.at (k := 0) rfl)))) <| .each (.c (.stay rfl (.put (fun E hE => .idxOwn (lt1 rfl) (.tmp (hE.at (k := 0) rfl)) (.tmp (hE.at (k := 1) rfl)) Try.underlying88 sz92 rfl hy_2))) <| .c (.stay rfl (.put (fun E hE => .idxOwn (lt1 rfl) (.tmp (hE.at (k := 0) rfl)) (.tmp (hE.at (k := 1) rfl)) Try.underlying88 sz92 rfl hy_2))) <| .c (.stay rfl (.put (fun E hE => .idxOwn (lt1 rfl) (.tmp (hE.at (k := 0) rfl)) (.tmp (hE.at (k := 1) rfl)) Try.underlying88 sz92 rfl hy_2))) <| .c (.stay rfl (.put (fun E hE => .idxOwn (lt1 rfl) (.tmp (hE.at (k := 0) rfl)) (.tmp (hE.at (k := 1) rfl)) Try.underlying88 sz92 rfl hy_2))) <| .c (.stay rfl (.put (fun E hE => .idxOwn (lt1 rfl) (.tmp (hE.at (k := 0) rfl)) (.tmp (hE.at (k := 1) rfl)) Try.underlying88 sz92 rfl hy_2))) <| .c (.bad rfl) <| .n) <| .each (.c (.stay rfl (.put (fun E hE => .loadPA (lt1 rfl) (.tmp (hE.at (k := 0) rfl)) agg92 rfl (cells_at encR91_len hy_2) rfl rfl))) <| .c (.stay rfl (.put (fun E hE => .loadPA (lt1 rfl) (.tmp (hE.at (k := 0) rfl)) agg92 rfl (cells_at encR91_len hy_2) rfl rfl))) <| .c (.stay rfl (.put (fun E hE => .loadPA (lt1 rfl) (.tmp (hE.at (k := 0) rfl)) agg92 rfl (cells_at encR91_len hy_2) rfl rfl))) <| .c (.stay rfl (.put (fun E hE => .loadPA (lt1 rfl) (.tmp (hE.at (k := 0) rfl)) agg92 rfl (cells_at encR91_len hy_2) rfl rfl))) <| .c (.stay rfl (.put (fun E hE => .loadPA (lt1 rfl) (.tmp (hE.at (k := 0) rfl)) agg92 rfl (cells_at encR91_len hy_2) rfl rfl))) <| .c (.bad rfl) <| .n) <| .each (.c (.turn 1 rfl rfl (.looks (.new (fun E hE => .alloc (t := 3) (k := ⟨92, false, [.sc (.int .i64 (0 : Int)), .sc (.int .i64 (0 : Int))]⟩) (lt1 rfl) (nm rfl) zero92 rfl rfl) rfl) (looksOf (.c rfl <| .c rfl <| .c rfl <| .n _) (.c rfl <| .c rfl <| .c rfl <| .n _)))) <| .c (.bad rfl) <| .c (.turn 3 rfl rfl (.looks (.new (fun E hE => .alloc (t := 3) (k := ⟨92, false, [.sc (.int .i64 (0 : Int)), .sc (.int .i64 (0 : Int))]⟩) (lt1 rfl) (nm rfl) zero92 rfl rfl) rfl) (looksOf (.c rfl <| .c rfl <| .c rfl <| .c rfl <| .n _) (.c rfl <| .c rfl <| .c rfl <| .c rfl <| .n _)))) <| .c (.bad rfl) <| .c (.bad rfl) <| .c (.bad rfl) <| .n) <| .each (.c (.turn 2 rfl rfl (.looks (.new (fun E hE => .alloc (t := 4) (k := ⟨92, false, [.sc (.int .i64 (0 : Int)), .sc (.int .i64 (0 : Int))]⟩) (lt1 rfl) (nm rfl) zero92 rfl rfl) rfl) (looksOf (.c rfl <| .c rfl <| .c rfl <| .n _) (.c rfl <| .c rfl <| .c rfl <| .n _)))) <| .c (.turn 3 rfl rfl (.looks (.new (fun E hE => .alloc (t := 4) (k := ⟨92, false, [.sc (.int .i64 (0 : Int)), .sc (.int .i64 (0 : Int))]⟩) (lt1 rfl) (nm rfl) zero92 rfl rfl) rfl) (looksOf (.c rfl <| .c rfl <| .c rfl <| .c rfl <| .n _) (.c rfl <| .c rfl <| .c rfl <| .c rfl <| .n _)))) <| .c (.bad rfl) <| .c (.bad rfl) <| .c (.bad rfl) <| .c (.bad rfl) <| .n) <| .each (.c (.bad rfl) <| .c (.bad rfl) <| .c (.bad rfl) <| .c (.turn 4 rfl rfl (.looks (.store (fun E hE => .storePA (.tmp (hE.at (k := 0) rfl)) (.tmp (hE.at (k := 1) rfl)) sz92 rfl rfl (le1 rfl) (one_lit rfl) (by intro h; cases h) rfl) rfl) (looksOf (.c rfl <| .c rfl <| .c rfl <| .c rfl <| .n _) (.c rfl <| .c rfl <| .c rfl <| .c rfl <| .n _)))) <| .c (.bad rfl) <| .c (.bad rfl) <| .n) <| .each (.c (.bad rfl) <| .c (.bad rfl) <| .c (.bad rfl) <| .c (.bad rfl) <| .c (.turn 5 rfl rfl (.looks (.store (fun E hE => .storePA (.tmp (hE.at (k := 0) rfl)) (.tmp (hE.at (k := 1) rfl)) sz92 rfl rfl (le1 rfl) (one_lit rfl) (by intro h; cases h) rfl) rfl) (looksOf (.c rfl <| .c rfl <| .c rfl <| .c rfl <| .n _) (.c rfl <| .c rfl <| .c rfl <| .c rfl <| .n _)))) <| .c (.bad rfl) <| .n) <| .nil _) (fun E hE => .c (DInv.at hE (k := 0) rfl rfl rfl) <| .c (DInv.at hE (k := 17) rfl rfl rfl) <| .c (DInv.at hE (k := 18) rfl rfl rfl) <| .n _) (.c (fun h => by cases h) <| .c (fun h => by cases h) <| .c (fun h => by cases h) <| .c (fun h => by cases h) <| .c (fun h => by cases h) <| .c (fun _ => rfl) <| .n) ?_
  refine AWP.vc (s' := ⟨[(0, .ptr 1 0), (7, .ptr 3 0), (8, .ptr 4 0)], [(4, ⟨92, false, [.sc (.int .i64 y_2.x), .sc (.int .i64 y_2.number)]⟩), (3, ⟨92, false, [.sc (.int .i64 y_1.x), .sc (.int .i64 y_1.number)]⟩), (1, ⟨90, false, [.clo (.func 31) [] [], .own 2 2 0 a0_b1_b.length, .sc (.int .i64 a0_b2)]⟩), (2, ⟨92, true, a0_b1_b.flatMap encR91⟩)]⟩) (VC.sub (.c rfl <| .c rfl <| .c rfl <| .n _) (.c rfl <| .c rfl <| .c rfl <| .c rfl <| .n _)) ?_
  refine AWP.seq ?_
  refine AWP.seq ?_
  refine AWP.region (.cons (.fieldP (lt1 rfl) (.tmp rfl) fld92_1) <| .cons (.loadP (lt1 rfl) (.tmp rfl) one3 rfl rfl rfl) <| .cons (.fieldP (lt1 rfl) (.tmp rfl) fld92_1) <| .cons (.loadP (lt1 rfl) (.tmp rfl) one3 rfl rfl rfl) <| .cons (.lss (lt1 rfl) (.tmp rfl) (.tmp rfl)) <| ARun.nil _ _ _) ?_
  refine AWP.vc (s' := ⟨[(0, .ptr 1 0), (7, .ptr 3 0), (8, .ptr 4 0), (27, .sc (.bool (decide (y_1.number < y_2.number))))], [(4, ⟨92, false, [.sc (.int .i64 y_2.x), .sc (.int .i64 y_2.number)]⟩), (3, ⟨92, false, [.sc (.int .i64 y_1.x), .sc (.int .i64 y_1.number)]⟩), (1, ⟨90, false, [.clo (.func 31) [] [], .own 2 2 0 a0_b1_b.length, .sc (.int .i64 a0_b2)]⟩), (2, ⟨92, true, a0_b1_b.flatMap encR91⟩)]⟩) (VC.sub (.c rfl <| .c rfl <| .c rfl <| .c rfl <| .n _) (.c rfl <| .c rfl <| .c rfl <| .c rfl <| .n _)) ?_
  refine AWP.cond (.tmp rfl) (fun hc => ?_) (fun hc => ?_)
  · have h := iteT hc h
    refine AWP.seq ?_
    obtain ⟨y_3, hy_3, h⟩ := bindS h
    refine AWP.draw (s' := ⟨[(6, .sc (.bool (!y_3)))], [(4, ⟨92, false, [.sc (.int .i64 y_2.x), .sc (.int .i64 y_2.number)]⟩), (3, ⟨92, false, [.sc (.int .i64 y_1.x), .sc (.int .i64 y_1.number)]⟩), (1, ⟨90, false, [.clo (.func 31) [] [], .own 2 2 0 a0_b1_b.length, .sc (.int .i64 a0_b2)]⟩), (2, ⟨92, true, a0_b1_b.flatMap encR91⟩)]⟩) mixed [⟨0, .ptr 1 0, none, []⟩, ⟨7, .ptr 3 0, none, []⟩, ⟨8, .ptr 4 0, none, []⟩, ⟨27, .sc (.bool (decide (y_1.number < y_2.number))), none, []⟩, ⟨28, .ptr 1 0, some 0, []⟩, ⟨29, .ptr 1 0, some 1, []⟩, ⟨30, .ptr 1 (0 + 0), some 2, []⟩, ⟨31, .clo (.func 31) [] [], some 3, []⟩, ⟨32, .ptr 4 (0 + 0), some 4, []⟩, ⟨33, .sc (.int .i64 y_2.x), some 5, []⟩, ⟨34, .ptr 3 (0 + 0), some 6, []⟩, ⟨35, .sc (.int .i64 y_1.x), some 7, []⟩, ⟨36, .sc (.bool y_3), some 8, []⟩, ⟨37, .sc (.bool (!y_3)), some 9, []⟩, ⟨6, .sc (.bool (!y_3)), some 10, []⟩] [⟨[0], 0, 0, some (28, .ptr 1 0), []⟩, ⟨[4], 0, 0, some (29, .ptr 1 0), []⟩, ⟨[5], 0, 0, some (30, .ptr 1 (0 + 0)), []⟩, ⟨[6], 0, 0, some (31, .clo (.func 31) [] []), []⟩, ⟨[2], 0, 0, some (32, .ptr 4 (0 + 0)), []⟩, ⟨[8], 0, 0, some (33, .sc (.int .i64 y_2.x)), []⟩, ⟨[1], 0, 0, some (34, .ptr 3 (0 + 0)), []⟩, ⟨[10], 0, 0, some (35, .sc (.int .i64 y_1.x)), []⟩, ⟨[7, 9, 11], 0, 0, some (36, .sc (.bool y_3)), []⟩, ⟨[12], 0, 0, some (37, .sc (.bool (!y_3))), []⟩, ⟨[13], 0, 0, some (6, .sc (.bool (!y_3))), []⟩] [] [[(4, ⟨92, false, [.sc (.int .i64 y_2.x), .sc (.int .i64 y_2.number)]⟩), (3, ⟨92, false, [.sc (.int .i64 y_1.x), .sc (.int .i64 y_1.number)]⟩), (1, ⟨90, false, [.clo (.func 31) [] [], .own 2 2 0 a0_b1_b.length, .sc (.int .i64 a0_b2)]⟩), (2, ⟨92, true, a0_b1_b.flatMap encR91⟩)]] [[], [0], [0, 1], [0, 1, 2], [], [4], [], [6], [0, 1, 2, 3, 4, 5, 6, 7], [0, 1, 2, 3, 4, 5, 6, 7, 8], [0, 1, 2, 3, 4, 5, 6, 7, 8, 9]] (by kernel_rfl) (by kernel_rfl) (BornL.ok (.o <| .o <| .o <| .o <| .b rfl rfl <| .b rfl rfl <| .b rfl rfl <| .b rfl rfl <| .b rfl rfl <| .b rfl rfl <| .b rfl rfl <| .b rfl rfl <| .b rfl rfl <| .b rfl rfl <| .b rfl rfl <| .n)) (BaseL.ok (.o rfl <| .o rfl <| .o rfl <| .o rfl <| .b <| .b <| .b <| .b <| .b <| .b <| .b <| .b <| .b <| .b <| .b <| .n)) rfl (by decide) (allLt rfl) (.read rfl (.c (.put (fun E hE => .move (lt1 rfl) (.tmp (hE.at (k := 0) rfl)))) .n) <| .read rfl (.c (.put (fun E hE => .nilCheck (lt1 rfl) (.tmp (hE.at (k := 0) rfl)) trivial)) .n) <| .read rfl (.c (.put (fun E hE => .fieldP (lt1 rfl) (.tmp (hE.at (k := 0) rfl)) fld90_0)) .n) <| .read rfl (.c (.put (fun E hE => .loadP (lt1 rfl) (.tmp (hE.at (k := 0) rfl)) one64 rfl rfl rfl)) .n) <| .read rfl (.c (.put (fun E hE => .fieldP (lt1 rfl) (.tmp (hE.at (k := 0) rfl)) fld92_0)) .n) <| .read rfl (.c (.put (fun E hE => .loadP (lt1 rfl) (.tmp (hE.at (k := 0) rfl)) one3 rfl rfl rfl)) .n) <| .read rfl (.c (.put (fun E hE => .fieldP (lt1 rfl) (.tmp (hE.at (k := 0) rfl)) fld92_0)) .n) <| .read rfl (.c (.put (fun E hE => .loadP (lt1 rfl) (.tmp (hE.at (k := 0) rfl)) one3 rfl rfl rfl)) .n) <| .read rfl (.c (.put (fun E hE => .keep (bw := false) (AStep.callV (us' := []) (avs := [.sc (.int .i64 y_2.x), .sc (.int .i64 y_1.x)]) (cs' := []) (σ := sgT []) (bw := false) (lt1 rfl) (.tmp (hE.at (k := 0) rfl)) (c31 n y_2.x y_1.x hy_3) (.nil) (.cons (.tmp (hE.at (k := 1) rfl)) (.ren rfl) (.cons (.tmp (hE.at (k := 2) rfl)) (.ren rfl) (.nil))) (.nil) (CallOk.mk' (.n) rfl) (fun _ h => by cases h)) (CallOk.mk' (.n) rfl) rfl rfl)) .n) <| .pure rfl (fun H => .put (fun E hE => .not (lt1 rfl) (.tmp (hE.at (k := 0) rfl)))) <| .pure rfl (fun H => .put (fun E hE => .assign (lt1 rfl) (.tmp (hE.at (k := 0) rfl)))) <| .nil _) (fun E hE => .c (DInv.at hE (k := 14) rfl rfl rfl) <| .n _) rfl ?_
    refine AWP.ret ?_
    obtain rfl := Option.some.inj h
    refine retJ (Res.vc (s' := ⟨[(6, .sc (.bool (!y_3)))], [(1, ⟨90, false, [.clo (.func 31) [] [], .own 2 2 0 a0_b1_b.length, .sc (.int .i64 a0_b2)]⟩), (2, ⟨92, true, a0_b1_b.flatMap encR91⟩)]⟩) (VC.sub (.c rfl <| .n _) (.c rfl <| .c rfl <| .n _)) ?_)
    refine Res.sub (H := [(1, ⟨90, false, [.clo (.func 31) [] [], .own 2 2 0 a0_b1_b.length, .sc (.int .i64 a0_b2)]⟩), (2, ⟨92, true, a0_b1_b.flatMap encR91⟩)]) (.c rfl <| .c rfl <| .n _) ?_
    exact Res.of rfl (.cons (.tmp rfl) (.nil)) rfl rfl
  · have h := iteF hc h
    refine AWP.skip ?_
    refine AWP.seq ?_
    obtain ⟨y_4, hy_4, h⟩ := bindS h
    refine AWP.draw (s' := ⟨[(6, .sc (.bool y_4))], [(4, ⟨92, false, [.sc (.int .i64 y_2.x), .sc (.int .i64 y_2.number)]⟩), (3, ⟨92, false, [.sc (.int .i64 y_1.x), .sc (.int .i64 y_1.number)]⟩), (1, ⟨90, false, [.clo (.func 31) [] [], .own 2 2 0 a0_b1_b.length, .sc (.int .i64 a0_b2)]⟩), (2, ⟨92, true, a0_b1_b.flatMap encR91⟩)]⟩) mixed [⟨0, .ptr 1 0, none, []⟩, ⟨7, .ptr 3 0, none, []⟩, ⟨8, .ptr 4 0, none, []⟩, ⟨27, .sc (.bool (decide (y_1.number < y_2.number))), none, []⟩, ⟨38, .ptr 1 0, some 0, []⟩, ⟨39, .ptr 1 0, some 1, []⟩, ⟨40, .ptr 1 (0 + 0), some 2, []⟩, ⟨41, .clo (.func 31) [] [], some 3, []⟩, ⟨42, .ptr 3 (0 + 0), some 4, []⟩, ⟨43, .sc (.int .i64 y_1.x), some 5, []⟩, ⟨44, .ptr 4 (0 + 0), some 6, []⟩, ⟨45, .sc (.int .i64 y_2.x), some 7, []⟩, ⟨46, .sc (.bool y_4), some 8, []⟩, ⟨6, .sc (.bool y_4), some 9, []⟩] [⟨[0], 0, 0, some (38, .ptr 1 0), []⟩, ⟨[4], 0, 0, some (39, .ptr 1 0), []⟩, ⟨[5], 0, 0, some (40, .ptr 1 (0 + 0)), []⟩, ⟨[6], 0, 0, some (41, .clo (.func 31) [] []), []⟩, ⟨[1], 0, 0, some (42, .ptr 3 (0 + 0)), []⟩, ⟨[8], 0, 0, some (43, .sc (.int .i64 y_1.x)), []⟩, ⟨[2], 0, 0, some (44, .ptr 4 (0 + 0)), []⟩, ⟨[10], 0, 0, some (45, .sc (.int .i64 y_2.x)), []⟩, ⟨[7, 9, 11], 0, 0, some (46, .sc (.bool y_4)), []⟩, ⟨[12], 0, 0, some (6, .sc (.bool y_4)), []⟩] [] [[(4, ⟨92, false, [.sc (.int .i64 y_2.x), .sc (.int .i64 y_2.number)]⟩), (3, ⟨92, false, [.sc (.int .i64 y_1.x), .sc (.int .i64 y_1.number)]⟩), (1, ⟨90, false, [.clo (.func 31) [] [], .own 2 2 0 a0_b1_b.length, .sc (.int .i64 a0_b2)]⟩), (2, ⟨92, true, a0_b1_b.flatMap encR91⟩)]] [[], [0], [0, 1], [0, 1, 2], [], [4], [], [6], [0, 1, 2, 3, 4, 5, 6, 7], [0, 1, 2, 3, 4, 5, 6, 7, 8]] (by kernel_rfl) (by kernel_rfl) (BornL.ok (.o <| .o <| .o <| .o <| .b rfl rfl <| .b rfl rfl <| .b rfl rfl <| .b rfl rfl <| .b rfl rfl <| .b rfl rfl <| .b rfl rfl <| .b rfl rfl <| .b rfl rfl <| .b rfl rfl <| .n)) (BaseL.ok (.o rfl <| .o rfl <| .o rfl <| .o rfl <| .b <| .b <| .b <| .b <| .b <| .b <| .b <| .b <| .b <| .b <| .n)) rfl (by decide) (allLt rfl) (.read rfl (.c (.put (fun E hE => .move (lt1 rfl) (.tmp (hE.at (k := 0) rfl)))) .n) <| .read rfl (.c (.put (fun E hE => .nilCheck (lt1 rfl) (.tmp (hE.at (k := 0) rfl)) trivial)) .n) <| .read rfl (.c (.put (fun E hE => .fieldP (lt1 rfl) (.tmp (hE.at (k := 0) rfl)) fld90_0)) .n) <| .read rfl (.c (.put (fun E hE => .loadP (lt1 rfl) (.tmp (hE.at (k := 0) rfl)) one64 rfl rfl rfl)) .n) <| .read rfl (.c (.put (fun E hE => .fieldP (lt1 rfl) (.tmp (hE.at (k := 0) rfl)) fld92_0)) .n) <| .read rfl (.c (.put (fun E hE => .loadP (lt1 rfl) (.tmp (hE.at (k := 0) rfl)) one3 rfl rfl rfl)) .n) <| .read rfl (.c (.put (fun E hE => .fieldP (lt1 rfl) (.tmp (hE.at (k := 0) rfl)) fld92_0)) .n) <| .read rfl (.c (.put (fun E hE => .loadP (lt1 rfl) (.tmp (hE.at (k := 0) rfl)) one3 rfl rfl rfl)) .n) <| .read rfl (.c (.put (fun E hE => .keep (bw := false) (AStep.callV (us' := []) (avs := [.sc (.int .i64 y_1.x), .sc (.int .i64 y_2.x)]) (cs' := []) (σ := sgT []) (bw := false) (lt1 rfl) (.tmp (hE.at (k := 0) rfl)) (c31 n y_1.x y_2.x hy_4) (.nil) (.cons (.tmp (hE.at (k := 1) rfl)) (.ren rfl) (.cons (.tmp (hE.at (k := 2) rfl)) (.ren rfl) (.nil))) (.nil) (CallOk.mk' (.n) rfl) (fun _ h => by cases h)) (CallOk.mk' (.n) rfl) rfl rfl)) .n) <| .pure rfl (fun H => .put (fun E hE => .assign (lt1 rfl) (.tmp (hE.at (k := 0) rfl)))) <| .nil _) (fun E hE => .c (DInv.at hE (k := 13) rfl rfl rfl) <| .n _) rfl ?_
    refine AWP.ret ?_
    obtain rfl := Option.some.inj h
    refine retJ (Res.vc (s' := ⟨[(6, .sc (.bool y_4))], [(1, ⟨90, false, [.clo (.func 31) [] [], .own 2 2 0 a0_b1_b.length, .sc (.int .i64 a0_b2)]⟩), (2, ⟨92, true, a0_b1_b.flatMap encR91⟩)]⟩) (VC.sub (.c rfl <| .n _) (.c rfl <| .c rfl <| .n _)) ?_)
    refine Res.sub (H := [(1, ⟨90, false, [.clo (.func 31) [] [], .own 2 2 0 a0_b1_b.length, .sc (.int .i64 a0_b2)]⟩), (2, ⟨92, true, a0_b1_b.flatMap encR91⟩)]) (.c rfl <| .c rfl <| .n _) ?_
    exact Res.of rfl (.cons (.tmp rfl) (.nil)) rfl rfl
theorem c39 (n : Nat) (a0_b1_b : (List R91)) (a0_b2 : Int) (a1 : Int) {r : (Int × (List R91))} (h : m39 n a0_b1_b a0_b2 a1 = some r) : Spec Try.prog 39 [1] [.ptr 1 0, .sc (.int .i64 a1)] [(1, ⟨90, false, [.clo (.func 31) [] [], .own 2 2 0 a0_b1_b.length, .sc (.int .i64 a0_b2)]⟩), (2, ⟨92, true, a0_b1_b.flatMap encR91⟩)] (.tup []) [(1, ⟨90, false, [.clo (.func 31) [] [], .own 2 2 0 r.2.length, .sc (.int .i64 r.1)]⟩), (2, ⟨92, true, r.2.flatMap encR91⟩)] := by
  refine Spec.of (fn := Try.f39) Try.func39 Try.ntmps39 rfl rfl (le1 rfl) (fun w0 Zs Zb T0 ι0 => ?_)
  unfold m39 at h
  refine AWP.seq ?_
  refine AWP.seq ?_
  refine AWP.region (.cons (.move (lt1 rfl) (.tmp rfl)) <| .cons (.ptrNil0 (lt1 rfl) (.tmp rfl) Try.underlying79) <| ARun.nil _ _ _) ?_
  refine AWP.vc (s' := ⟨[(0, .ptr 1 0), (1, .sc (.int .i64 a1)), (7, .sc (.bool false))], [(1, ⟨90, false, [.clo (.func 31) [] [], .own 2 2 0 a0_b1_b.length, .sc (.int .i64 a0_b2)]⟩), (2, ⟨92, true, a0_b1_b.flatMap encR91⟩)]⟩) (VC.sub (.c rfl <| .c rfl <| .c rfl <| .n _) (.c rfl <| .c rfl <| .n _)) ?_
  refine AWP.cond (.tmp rfl) (fun hc => by cases hc) (fun _ => ?_)
  refine AWP.skip ?_
  refine AWP.seq ?_
  obtain ⟨l2_1, hl2_1, h⟩ := bindS h
  refine AWP.draw (s' := ⟨[(0, .ptr 1 0)], [(2, ⟨92, true, l2_1.flatMap encR91⟩), (1, ⟨90, false, [.clo (.func 31) [] [], .own 2 2 0 l2_1.length, .sc (.int .i64 a0_b2)]⟩)]⟩) mixed [⟨0, .ptr 1 0, none, []⟩, ⟨1, .sc (.int .i64 a1), none, []⟩, ⟨7, .sc (.bool false), none, []⟩, ⟨8, .ptr 1 0, some 0, []⟩, ⟨9, .ptr 1 0, some 1, []⟩, ⟨10, .ptr 1 0, some 2, []⟩, ⟨11, .ptr 1 (0 + 1), some 3, []⟩, ⟨12, .own 2 2 0 a0_b1_b.length, some 4, [12]⟩, ⟨13, .sc (.int .i64 a1), some 5, []⟩, ⟨14, .ptr 1 0, some 6, []⟩, ⟨15, .ptr 1 0, some 7, []⟩, ⟨16, .ptr 1 (0 + 2), some 8, []⟩, ⟨17, .sc (.int .i64 a0_b2), some 9, []⟩, ⟨18, .agg [.sc (.int .i64 a1), .sc (.int .i64 a0_b2)], some 10, []⟩, ⟨19, .rd false ([(R91.mk a1 a0_b2)] : List R91).length (([(R91.mk a1 a0_b2)] : List R91).flatMap encR91), some 11, []⟩, ⟨20, .own 2 2 0 l2_1.length, some 12, []⟩, ⟨21, .ptr 1 0, some 13, []⟩, ⟨22, .ptr 1 (0 + 1), some 14, []⟩] [⟨[0], 0, 1, some (8, .ptr 1 0), []⟩, ⟨[0], 0, 0, some (9, .ptr 1 0), []⟩, ⟨[4], 0, 0, some (10, .ptr 1 0), []⟩, ⟨[5], 0, 0, some (11, .ptr 1 (0 + 1)), []⟩, ⟨[6], 0, 0, some (12, .own 2 2 0 a0_b1_b.length), []⟩, ⟨[1], 0, 2, some (13, .sc (.int .i64 a1)), []⟩, ⟨[0], 0, 0, some (14, .ptr 1 0), []⟩, ⟨[9], 0, 0, some (15, .ptr 1 0), []⟩, ⟨[10], 0, 0, some (16, .ptr 1 (0 + 2)), []⟩, ⟨[11], 0, 0, some (17, .sc (.int .i64 a0_b2)), []⟩, ⟨[8, 12], 0, 2, some (18, .agg [.sc (.int .i64 a1), .sc (.int .i64 a0_b2)]), []⟩, ⟨[13], 0, 2, some (19, .rd false ([(R91.mk a1 a0_b2)] : List R91).length (([(R91.mk a1 a0_b2)] : List R91).flatMap encR91)), []⟩, ⟨[7, 14], 0, 0, some (20, .own 2 2 0 l2_1.length), [2]⟩, ⟨[3], 1, 1, some (21, .ptr 1 0), []⟩, ⟨[16], 1, 1, some (22, .ptr 1 (0 + 1)), []⟩, ⟨[17, 15], 1, 1, none, []⟩] [12, 15] [[(1, ⟨90, false, [.clo (.func 31) [] [], .own 2 2 0 a0_b1_b.length, .sc (.int .i64 a0_b2)]⟩), (2, ⟨92, true, a0_b1_b.flatMap encR91⟩)], [(2, ⟨92, true, l2_1.flatMap encR91⟩), (1, ⟨90, false, [.clo (.func 31) [] [], .any, .sc (.int .i64 a0_b2)]⟩)], [(2, ⟨92, true, l2_1.flatMap encR91⟩), (1, ⟨90, false, [.clo (.func 31) [] [], .own 2 2 0 l2_1.length, .sc (.int .i64 a0_b2)]⟩)]] [[], [], [1], [1, 2], [1, 2, 3], [], [], [6], [6, 7], [6, 7, 8], [5, 6, 7, 8, 9], [5, 6, 7, 8, 9, 10], [1, 2, 3, 4, 5, 6, 7, 8, 9, 10, 11], [0, 1, 2, 3, 4, 5, 6, 7, 8, 9, 10, 11, 12], [0, 1, 2, 3, 4, 5, 6, 7, 8, 9, 10, 11, 12, 13], [0, 1, 2, 3, 4, 5, 6, 7, 8, 9, 10, 11, 12, 13, 14]] (by kernel_rfl) (by kernel_rfl) (BornL.ok (.o <| .o <| .o <| .b rfl rfl <| .b rfl rfl <| .b rfl rfl <| .b rfl rfl <| .b rfl rfl <| .b rfl rfl <| .b rfl rfl <| .b rfl rfl <| .b rfl rfl <| .b rfl rfl <| .b rfl rfl <| .b rfl rfl <| .b rfl rfl <| .b rfl rfl <| .b rfl rfl <| .n)) (BaseL.ok (.o rfl <| .o rfl <| .o rfl <| .b <| .b <| .b <| .b <| .b <| .b <| .b <| .b <| .b <| .b <| .b <| .b <| .b <| .b <| .b <| .n)) rfl (by decide) (allLt rfl) (.read rfl (.c (.put (fun E hE => .move (lt1 rfl) (.tmp (hE.at (k := 0) rfl)))) (.c (.put (fun E hE => .move (lt1 rfl) (.tmp (hE.at (k := 0) rfl)))) (.n))) <| .read rfl (.c (.put (fun E hE => .move (lt1 rfl) (.tmp (hE.at (k := 0) rfl)))) (.n)) <| .read rfl (.c (.put (fun E hE => .nilCheck (lt1 rfl) (.tmp (hE.at (k := 0) rfl)) trivial)) (.n)) <| .read rfl (.c (.put (fun E hE => .fieldP (lt1 rfl) (.tmp (hE.at (k := 0) rfl)) fld90_1)) (.n)) <| .read rfl (.c (.put (fun E hE => .loadP (lt1 rfl) (.tmp (hE.at (k := 0) rfl)) one88 rfl rfl rfl)) (.n)) <| .pure rfl (fun H => .put (fun E hE => .move (lt1 rfl) (.tmp (hE.at (k := 0) rfl)))) <| .read rfl (.c (.put (fun E hE => .move (lt1 rfl) (.tmp (hE.at (k := 0) rfl)))) (.n)) <| .read rfl (.c (.put (fun E hE => .nilCheck (lt1 rfl) (.tmp (hE.at (k := 0) rfl)) trivial)) (.n)) <| .read rfl (.c (.put (fun E hE => .fieldP (lt1 rfl) (.tmp (hE.at (k := 0) rfl)) fld90_2)) (.n)) <| .read rfl (.c (.put (fun E hE => .loadP (lt1 rfl) (.tmp (hE.at (k := 0) rfl)) one3 rfl rfl rfl)) (.n)) <| .pure rfl (fun H => .put (fun E hE => .buildO (offs := [(0, 1), (1, 1)]) (lt1 rfl) (.cons (.tmp (hE.at (k := 0) rfl)) (by first | exact ⟨rfl, rfl⟩ | rfl) (.cons (.tmp (hE.at (k := 1) rfl)) (by first | exact ⟨rfl, rfl⟩ | rfl) (.nil))) zero92 offs92 rfl)) <| .pure rfl (fun H => .put (fun E hE => .frzAny (fun t ht => AStep.buildSlice (t := t) (out := ([(R91.mk a1 a0_b2)] : List R91).flatMap encR91) (lt1 rfl) ht (.cons (.tmp (hE.at (k := 0) rfl)) (by first | exact ⟨rfl, rfl⟩ | rfl) (.nil)) Try.underlying88 zero92 el92 (by decide) (by decide) rfl (still_all encR91_still _)) rfl encR91_len)) <| .turn rfl rfl rfl rfl rfl (.new (fun E hE => .app (enc := encR91) (lt1 rfl) (nm rfl) (.tmp (hE.at (k := 0) rfl)) (Src.rd (.tmp (hE.at (k := 1) rfl)) (flatMap_length encR91_len _) (one_all encR91_one _) (.inl rfl)) Try.underlying88 ⟨_, Try.underlying88, by intro k hk; cases hk⟩ el92 rfl encR91_len rfl rfl (by decide) hl2_1) rfl) <| .read rfl (.c (.put (fun E hE => .nilCheck (lt1 rfl) (.tmp (hE.at (k := 0) rfl)) trivial)) (.n)) <| .read rfl (.c (.put (fun E hE => .fieldP (lt1 rfl) (.tmp (hE.at (k := 0) rfl)) fld90_1)) (.n)) <| .turn rfl rfl rfl rfl rfl (.store (fun E hE => .storeP (.tmp (hE.at (k := 0) rfl)) (.tmp (hE.at (k := 1) rfl)) sz88 rfl (lt1 rfl) rfl (by intro h; cases h) rfl) rfl) <| .nil _) (fun E hE => .c (DInv.at hE (k := 0) rfl rfl rfl) <| .n _) rfl ?_
  refine AWP.vc (s' := ⟨[(0, .ptr 1 0)], [(2, ⟨92, true, l2_1.flatMap encR91⟩), (1, ⟨90, false, [.clo (.func 31) [] [], .own 2 2 0 l2_1.length, .sc (.int .i64 a0_b2)]⟩)]⟩) (VC.sub (.c rfl <| .n _) (.c rfl <| .c rfl <| .n _)) ?_
  refine AWP.seq ?_
  obtain ⟨c_2, hc_2, h⟩ := letS h
  refine AWP.region (.cons (.move (lt1 rfl) (.tmp rfl)) <| .cons (.nilCheck (lt1 rfl) (.tmp rfl) trivial) <| .cons (.fieldP (lt1 rfl) (.tmp rfl) fld90_2) <| .cons (.loadP (lt1 rfl) (.tmp rfl) one3 rfl rfl rfl) <| .cons (.add (lt1 rfl) (.tmp rfl) (.const _ _ _)) <| .cons (.nilCheck (lt1 rfl) (.tmp rfl) trivial) <| .cons (.fieldP (lt1 rfl) (.tmp rfl) fld90_2) <| .cons (.storeP (.tmp rfl) (.tmp rfl) sz3 rfl (lt1 rfl) rfl (by intro h; cases h) rfl) <| ARun.nil _ _ _) ?_
  refine AWP.vc (s' := ⟨[(0, .ptr 1 0)], [(2, ⟨92, true, l2_1.flatMap encR91⟩), (1, ⟨90, false, [.clo (.func 31) [] [], .own 2 2 0 l2_1.length, .sc (.int .i64 c_2)]⟩)]⟩) (by subst hc_2; exact VC.sub (.c rfl <| .n _) (.c rfl <| .c rfl <| .n _)) ?_
  refine AWP.seq ?_
  obtain ⟨t4_3, ht4_3, h⟩ := letS h
  refine AWP.region (.cons (.move (lt1 rfl) (.tmp rfl)) <| .cons (.nilCheck (lt1 rfl) (.tmp rfl) trivial) <| .cons (.fieldP (lt1 rfl) (.tmp rfl) fld90_1) <| .cons (.loadP (lt1 rfl) (.tmp rfl) one88 rfl rfl rfl) <| .cons (.lenOwn (lt1 rfl) (.tmp rfl) Try.underlying88) <| .cons (.sub (lt1 rfl) (.tmp rfl) (.const _ _ _)) <| .cons (.assign (lt1 rfl) (.tmp rfl)) <| ARun.nil _ _ _) ?_
  refine AWP.vc (s' := ⟨[(0, .ptr 1 0), (4, .sc (.int .i64 t4_3))], [(2, ⟨92, true, l2_1.flatMap encR91⟩), (1, ⟨90, false, [.clo (.func 31) [] [], .own 2 2 0 l2_1.length, .sc (.int .i64 c_2)]⟩)]⟩) (by subst ht4_3; exact VC.sub (.c rfl <| .c rfl <| .n _) (.c rfl <| .c rfl <| .n _)) ?_
  refine AWP.joinB' (S := fun p_32 : (List R91) => ⟨[], [(1, ⟨90, false, [.clo (.func 31) [] [], .own 2 2 0 p_32.length, .sc (.int .i64 c_2)]⟩), (2, ⟨92, true, p_32.flatMap encR91⟩)]⟩) h (fun p_32 h => ?_) (fun k_33 h => ?_)
  · obtain rfl := Option.some.inj h
    refine norJ (Res.vc (s' := ⟨[], [(1, ⟨90, false, [.clo (.func 31) [] [], .own 2 2 0 p_32.length, .sc (.int .i64 c_2)]⟩), (2, ⟨92, true, p_32.flatMap encR91⟩)]⟩) (VC.sub (.n _) (.c rfl <| .c rfl <| .n _)) ?_)
    refine Res.sub (H := [(1, ⟨90, false, [.clo (.func 31) [] [], .own 2 2 0 p_32.length, .sc (.int .i64 c_2)]⟩), (2, ⟨92, true, p_32.flatMap encR91⟩)]) (.c rfl <| .c rfl <| .n _) ?_
    exact Res.of rfl (.nil) rfl rfl
  · refine AWP.vc (s' := ⟨[(0, .ptr 1 0), (4, .sc (.int .i64 t4_3))], [(1, ⟨90, false, [.clo (.func 31) [] [], .own 2 2 0 l2_1.length, .sc (.int .i64 c_2)]⟩), (2, ⟨92, true, l2_1.flatMap encR91⟩)]⟩) (VC.sub (.c rfl <| .c rfl <| .n _) (.c rfl <| .c rfl <| .n _)) ?_
    refine AWP.loopM (S := fun x_22 : Int × (List R91) => ⟨[(0, .ptr 1 0), (4, .sc (.int .i64 x_22.1))], [(1, ⟨90, false, [.clo (.func 31) [] [], .own 2 2 0 x_22.2.length, .sc (.int .i64 c_2)]⟩), (2, ⟨92, true, x_22.2.flatMap encR91⟩)]⟩) (x := (t4_3, l2_1)) (fun nx_23 x_22 h => ?_) h
    unfold m39_L1 at h
    refine AWP.seq ?_
    refine AWP.seq ?_
    refine AWP.region (.cons (.move (lt1 rfl) (.tmp rfl)) <| .cons (.gtr (lt1 rfl) (.tmp rfl) (.const _ _ _)) <| ARun.nil _ _ _) ?_
    refine AWP.vc (s' := ⟨[(0, .ptr 1 0), (4, .sc (.int .i64 x_22.1)), (37, .sc (.bool (decide ((0 : Int) < x_22.1))))], [(1, ⟨90, false, [.clo (.func 31) [] [], .own 2 2 0 x_22.2.length, .sc (.int .i64 c_2)]⟩), (2, ⟨92, true, x_22.2.flatMap encR91⟩)]⟩) (VC.sub (.c rfl <| .c rfl <| .c rfl <| .n _) (.c rfl <| .c rfl <| .n _)) ?_
    refine AWP.cond (.tmp rfl) (fun hc => ?_) (fun hc => ?_)
    · have h := iteT hc h
      refine AWP.skip ?_
      refine AWP.block ?_
      refine AWP.seq ?_
      obtain ⟨t5_24, ht5_24, h⟩ := letS h
      refine AWP.region (.cons (.move (lt1 rfl) (.tmp rfl)) <| .cons (.sub (lt1 rfl) (.tmp rfl) (.const _ _ _)) <| .cons (.quo (lt1 rfl) (.tmp rfl) (.const _ _ _) (by decide)) <| .cons (.assign (lt1 rfl) (.tmp rfl)) <| ARun.nil _ _ _) ?_
      refine AWP.vc (s' := ⟨[(0, .ptr 1 0), (4, .sc (.int .i64 x_22.1)), (5, .sc (.int .i64 t5_24))], [(1, ⟨90, false, [.clo (.func 31) [] [], .own 2 2 0 x_22.2.length, .sc (.int .i64 c_2)]⟩), (2, ⟨92, true, x_22.2.flatMap encR91⟩)]⟩) (by subst ht5_24; exact VC.sub (.c rfl <| .c rfl <| .c rfl <| .n _) (.c rfl <| .c rfl <| .n _)) ?_
      refine AWP.seq ?_
      refine AWP.seq ?_
      obtain ⟨y_25, hy_25, h⟩ := bindS h
      refine AWP.region (.cons (.move (lt1 rfl) (.tmp rfl)) <| .cons (.move (lt1 rfl) (.tmp rfl)) <| .cons (.move (lt1 rfl) (.tmp rfl)) <| .cons (.keep (bw := false) (AStep.call (σ := sgT [(1, 1), (2, 2)]) (bw := false) (lt1 rfl) (c43 n x_22.2 c_2 x_22.1 t5_24 hy_25) (.cons (.tmp rfl) (.ren rfl) (.cons (.tmp rfl) (.ren rfl) (.cons (.tmp rfl) (.ren rfl) (.nil)))) (CallOk.mk' (.c rfl (.c rfl (.n))) rfl)) (CallOk.mk' (.c rfl (.c rfl (.n))) rfl) rfl rfl) <| .cons (.not (lt1 rfl) (.tmp rfl)) <| ARun.nil _ _ _) ?_
      refine AWP.vc (s' := ⟨[(0, .ptr 1 0), (4, .sc (.int .i64 x_22.1)), (5, .sc (.int .i64 t5_24)), (45, .sc (.bool (!y_25)))], [(1, ⟨90, false, [.clo (.func 31) [] [], .own 2 2 0 x_22.2.length, .sc (.int .i64 c_2)]⟩), (2, ⟨92, true, x_22.2.flatMap encR91⟩)]⟩) (VC.sub (.c rfl <| .c rfl <| .c rfl <| .c rfl <| .n _) (.c rfl <| .c rfl <| .n _)) ?_
      refine AWP.cond (.tmp rfl) (fun hc => ?_) (fun hc => ?_)
      · have h := iteT hc h
        refine AWP.ret ?_
        obtain rfl := Option.some.inj h
        refine retJ (Res.vc (s' := ⟨[], [(1, ⟨90, false, [.clo (.func 31) [] [], .own 2 2 0 x_22.2.length, .sc (.int .i64 c_2)]⟩), (2, ⟨92, true, x_22.2.flatMap encR91⟩)]⟩) (VC.sub (.n _) (.c rfl <| .c rfl <| .n _)) ?_)
        refine Res.sub (H := [(1, ⟨90, false, [.clo (.func 31) [] [], .own 2 2 0 x_22.2.length, .sc (.int .i64 c_2)]⟩), (2, ⟨92, true, x_22.2.flatMap encR91⟩)]) (.c rfl <| .c rfl <| .n _) ?_
        exact Res.of rfl (.nil) rfl rfl
      · have h := iteF hc h
        refine AWP.skip ?_
        refine AWP.seq ?_
        obtain ⟨y_26, hy_26, h⟩ := bindS h
        obtain ⟨y_27, hy_27, h⟩ := bindS h
        obtain ⟨y_28, hy_28, h⟩ := bindS h
        obtain ⟨l2_29, hl2_29, h⟩ := bindS h
        obtain ⟨y_30, hy_30, h⟩ := bindS h
        obtain ⟨l2_31, hl2_31, h⟩ := bindS h
        refine AWP.draw (s' := ⟨[(0, .ptr 1 0), (5, .sc (.int .i64 t5_24))], [(1, ⟨90, false, [.clo (.func 31) [] [], .own 2 2 0 l2_31.length, .sc (.int .i64 c_2)]⟩), (2, ⟨92, true, l2_31.flatMap encR91⟩)]⟩) mixed [⟨0, .ptr 1 0, none, []⟩, ⟨4, .sc (.int .i64 x_22.1), none, []⟩, ⟨5, .sc (.int .i64 t5_24), none, []⟩, ⟨45, .sc (.bool (!y_25)), none, []⟩, ⟨46, .ptr 1 0, some 0, []⟩, ⟨47, .ptr 1 0, some 1, []⟩, ⟨48, .ptr 1 (0 + 1), some 2, []⟩, ⟨49, .own 2 2 0 x_22.2.length, some 3, []⟩, ⟨50, .sc (.int .i64 x_22.1), some 4, []⟩, ⟨51, .ptr 1 0, some 5, []⟩, ⟨52, .ptr 1 0, some 6, []⟩, ⟨53, .ptr 1 (0 + 1), some 7, []⟩, ⟨54, .own 2 2 0 x_22.2.length, some 8, []⟩, ⟨55, .sc (.int .i64 t5_24), some 9, []⟩, ⟨56, .ptr 1 0, some 10, []⟩, ⟨57, .ptr 1 0, some 11, []⟩, ⟨58, .ptr 1 (0 + 1), some 12, []⟩, ⟨59, .own 2 2 0 x_22.2.length, some 13, []⟩, ⟨60, .sc (.int .i64 t5_24), some 14, []⟩, ⟨61, .ptr 2 (0 + (t5_24).toNat * 2), some 15, []⟩, ⟨62, .agg [.sc (.int .i64 y_26.x), .sc (.int .i64 y_26.number)], some 16, []⟩, ⟨63, .ptr 1 0, some 17, []⟩, ⟨64, .ptr 1 0, some 18, []⟩, ⟨65, .ptr 1 (0 + 1), some 19, []⟩, ⟨66, .own 2 2 0 x_22.2.length, some 20, []⟩, ⟨67, .sc (.int .i64 x_22.1), some 21, []⟩, ⟨68, .ptr 2 (0 + (x_22.1).toNat * 2), some 22, []⟩, ⟨69, .agg [.sc (.int .i64 y_27.x), .sc (.int .i64 y_27.number)], some 23, []⟩, ⟨70, .ptr 2 (0 + (x_22.1).toNat * 2), some 24, []⟩, ⟨71, .ptr 2 (0 + (t5_24).toNat * 2), some 26, []⟩] [⟨[0], 0, 0, some (46, .ptr 1 0), []⟩, ⟨[4], 0, 0, some (47, .ptr 1 0), []⟩, ⟨[5], 0, 0, some (48, .ptr 1 (0 + 1)), []⟩, ⟨[6], 0, 0, some (49, .own 2 2 0 x_22.2.length), []⟩, ⟨[1], 0, 2, some (50, .sc (.int .i64 x_22.1)), []⟩, ⟨[0], 0, 0, some (51, .ptr 1 0), []⟩, ⟨[9], 0, 0, some (52, .ptr 1 0), []⟩, ⟨[10], 0, 0, some (53, .ptr 1 (0 + 1)), []⟩, ⟨[11], 0, 0, some (54, .own 2 2 0 x_22.2.length), []⟩, ⟨[2], 0, 2, some (55, .sc (.int .i64 t5_24)), []⟩, ⟨[0], 0, 0, some (56, .ptr 1 0), []⟩, ⟨[14], 0, 0, some (57, .ptr 1 0), []⟩, ⟨[15], 0, 0, some (58, .ptr 1 (0 + 1)), []⟩, ⟨[16], 0, 0, some (59, .own 2 2 0 x_22.2.length), []⟩, ⟨[2], 0, 2, some (60, .sc (.int .i64 t5_24)), []⟩, ⟨[17, 18], 0, 0, some (61, .ptr 2 (0 + (t5_24).toNat * 2)), []⟩, ⟨[19], 0, 0, some (62, .agg [.sc (.int .i64 y_26.x), .sc (.int .i64 y_26.number)]), []⟩, ⟨[0], 0, 0, some (63, .ptr 1 0), []⟩, ⟨[21], 0, 0, some (64, .ptr 1 0), []⟩, ⟨[22], 0, 0, some (65, .ptr 1 (0 + 1)), []⟩, ⟨[23], 0, 0, some (66, .own 2 2 0 x_22.2.length), []⟩, ⟨[1], 0, 2, some (67, .sc (.int .i64 x_22.1)), []⟩, ⟨[24, 25], 0, 0, some (68, .ptr 2 (0 + (x_22.1).toNat * 2)), []⟩, ⟨[26], 0, 0, some (69, .agg [.sc (.int .i64 y_27.x), .sc (.int .i64 y_27.number)]), []⟩, ⟨[7, 8], 0, 0, some (70, .ptr 2 (0 + (x_22.1).toNat * 2)), []⟩, ⟨[28, 20], 0, 0, none, []⟩, ⟨[12, 13], 1, 1, some (71, .ptr 2 (0 + (t5_24).toNat * 2)), []⟩, ⟨[29, 27], 1, 1, none, []⟩] [25, 27] [[(1, ⟨90, false, [.clo (.func 31) [] [], .own 2 2 0 x_22.2.length, .sc (.int .i64 c_2)]⟩), (2, ⟨92, true, x_22.2.flatMap encR91⟩)], [(1, ⟨90, false, [.clo (.func 31) [] [], .own 2 2 0 l2_29.length, .sc (.int .i64 c_2)]⟩), (2, ⟨92, true, l2_29.flatMap encR91⟩)], [(1, ⟨90, false, [.clo (.func 31) [] [], .own 2 2 0 l2_31.length, .sc (.int .i64 c_2)]⟩), (2, ⟨92, true, l2_31.flatMap encR91⟩)]] [[], [0], [0, 1], [0, 1, 2], [], [], [5], [5, 6], [5, 6, 7], [], [], [10], [10, 11], [10, 11, 12], [], [10, 11, 12, 13, 14], [10, 11, 12, 13, 14, 15], [], [17], [17, 18], [17, 18, 19], [], [17, 18, 19, 20, 21], [17, 18, 19, 20, 21, 22], [0, 1, 2, 3, 4, 5, 6, 7, 8, 10, 11, 12, 13, 14, 15, 16, 17, 18, 19, 20, 21, 22, 23], [0, 1, 2, 3, 4, 5, 6, 7, 8, 10, 11, 12, 13, 14, 15, 16, 17, 18, 19, 20, 21, 22, 23, 24], [0, 1, 2, 3, 4, 5, 6, 7, 8, 9, 10, 11, 12, 13, 14, 15, 16, 17, 18, 19, 20, 21, 22, 23, 24, 25], [0, 1, 2, 3, 4, 5, 6, 7, 8, 9, 10, 11, 12, 13, 14, 15, 16, 17, 18, 19, 20, 21, 22, 23, 24, 25, 26]] (by kernel_rfl) (by kernel_rfl) (BornL.ok (.o <| .o <| .o <| .o <| .b rfl rfl <| .b rfl rfl <| .b rfl rfl <| .b rfl rfl <| .b rfl rfl <| .b rfl rfl <| .b rfl rfl <| .b rfl rfl <| .b rfl rfl <| .b rfl rfl <| .b rfl rfl <| .b rfl rfl <| .b rfl rfl <| .b rfl rfl <| .b rfl rfl <| .b rfl rfl <| .b rfl rfl <| .b rfl rfl <| .b rfl rfl <| .b rfl rfl <| .b rfl rfl <| .b rfl rfl <| .b rfl rfl <| .b rfl rfl <| .b rfl rfl <| .b rfl rfl <| .n)) (BaseL.ok (.o rfl <| .o rfl <| .o rfl <| .o rfl <| .b <| .b <| .b <| .b <| .b <| .b <| .b <| .b <| .b <| .b <| .b <| .b <| .b <| .b <| .b <| .b <| .b <| .b <| .b <| .b <| .b <| .b <| .b <| .b <| .b <| .b <| .n)) rfl (by decide) (allLt rfl) (.read rfl (.c (.put (fun E hE => .move (lt1 rfl) (.tmp (hE.at (k := 0) rfl)))) (.n)) <| .read rfl (.c (.put (fun E hE => .nilCheck (lt1 rfl) (.tmp (hE.at (k := 0) rfl)) trivial)) (.n)) <| .read rfl (.c (.put (fun E hE => .fieldP (lt1 rfl) (.tmp (hE.at (k := 0) rfl)) fld90_1)) (.n)) <| .read rfl (.c (.put (fun E hE => .loadP (lt1 rfl) (.tmp (hE.at (k := 0) rfl)) one88 rfl rfl rfl)) (.n)) <| .pure rfl (fun H => .put (fun E hE => .move (lt1 rfl) (.tmp (hE.at (k := 0) rfl)))) <| .read rfl (.c (.put (fun E hE => .move (lt1 rfl) (.tmp (hE.at (k := 0) rfl)))) (.n)) <| .read rfl (.c (.put (fun E hE => .nilCheck (lt1 rfl) (.tmp (hE.at (k := 0) rfl)) trivial)) (.n)) <| .read rfl (.c (.put (fun E hE => .fieldP (lt1 rfl) (.tmp (hE.at (k := 0) rfl)) fld90_1)) (.n)) <| .read rfl (.c (.put (fun E hE => .loadP (lt1 rfl) (.tmp (hE.at (k := 0) rfl)) one88 rfl rfl rfl)) (.n)) <| .pure rfl (fun H => .put (fun E hE => .move (lt1 rfl) (.tmp (hE.at (k := 0) rfl)))) <| .read rfl (.c (.put (fun E hE => .move (lt1 rfl) (.tmp (hE.at (k := 0) rfl)))) (.n)) <| .read rfl (.c (.put (fun E hE => .nilCheck (lt1 rfl) (.tmp (hE.at (k := 0) rfl)) trivial)) (.n)) <| .read rfl (.c (.put (fun E hE => .fieldP (lt1 rfl) (.tmp (hE.at (k := 0) rfl)) fld90_1)) (.n)) <| .read rfl (.c (.put (fun E hE => .loadP (lt1 rfl) (.tmp (hE.at (k := 0) rfl)) one88 rfl rfl rfl)) (.n)) <| .pure rfl (fun H => .put (fun E hE => .move (lt1 rfl) (.tmp (hE.at (k := 0) rfl)))) <| .read rfl (.c (.put (fun E hE => .idxOwn (lt1 rfl) (.tmp (hE.at (k := 0) rfl)) (.tmp (hE.at (k := 1) rfl)) Try.underlying88 sz92 rfl hy_26)) (.n)) <| .read rfl (.c (.put (fun E hE => .loadPA (lt1 rfl) (.tmp (hE.at (k := 0) rfl)) agg92 rfl (cells_at encR91_len hy_26) rfl rfl)) (.n)) <| .read rfl (.c (.put (fun E hE => .move (lt1 rfl) (.tmp (hE.at (k := 0) rfl)))) (.n)) <| .read rfl (.c (.put (fun E hE => .nilCheck (lt1 rfl) (.tmp (hE.at (k := 0) rfl)) trivial)) (.n)) <| .read rfl (.c (.put (fun E hE => .fieldP (lt1 rfl) (.tmp (hE.at (k := 0) rfl)) fld90_1)) (.n)) <| .read rfl (.c (.put (fun E hE => .loadP (lt1 rfl) (.tmp (hE.at (k := 0) rfl)) one88 rfl rfl rfl)) (.n)) <| .pure rfl (fun H => .put (fun E hE => .move (lt1 rfl) (.tmp (hE.at (k := 0) rfl)))) <| .read rfl (.c (.put (fun E hE => .idxOwn (lt1 rfl) (.tmp (hE.at (k := 0) rfl)) (.tmp (hE.at (k := 1) rfl)) Try.underlying88 sz92 rfl hy_27)) (.n)) <| .read rfl (.c (.put (fun E hE => .loadPA (lt1 rfl) (.tmp (hE.at (k := 0) rfl)) agg92 rfl (cells_at encR91_len hy_27) rfl rfl)) (.n)) <| .read rfl (.c (.put (fun E hE => .idxOwn (lt1 rfl) (.tmp (hE.at (k := 0) rfl)) (.tmp (hE.at (k := 1) rfl)) Try.underlying88 sz92 rfl hy_28)) (.n)) <| .turn rfl rfl rfl rfl rfl (.store (fun E hE => .storePA (.tmp (hE.at (k := 0) rfl)) (.tmp (hE.at (k := 1) rfl)) sz92 rfl rfl (le_at encR91_len hy_28) (one_lit rfl) (fun _ => still_lit rfl) (splL_at encR91_len hy_28 hl2_29)) (congrArg (fun n_ : Nat => ([(1, ⟨90, false, [.clo (.func 31) [] [], .own 2 2 0 n_, .sc (.int .i64 c_2)]⟩), (2, ⟨92, true, l2_29.flatMap encR91⟩)] : List (Nat × Blk))) (setLen hl2_29))) <| .read rfl (.c (.put (fun E hE => .idxOwn (lt1 rfl) (.ownN (Eq.symm (setLen hl2_29)) (.tmp (hE.at (k := 0) rfl))) (.tmp (hE.at (k := 1) rfl)) Try.underlying88 sz92 rfl hy_30)) (.n)) <| .turn rfl rfl rfl rfl rfl (.store (fun E hE => .storePA (.tmp (hE.at (k := 0) rfl)) (.tmp (hE.at (k := 1) rfl)) sz92 rfl rfl (le_at encR91_len hy_30) (one_lit rfl) (fun _ => still_lit rfl) (splL_at encR91_len hy_30 hl2_31)) (congrArg (fun n_ : Nat => ([(1, ⟨90, false, [.clo (.func 31) [] [], .own 2 2 0 n_, .sc (.int .i64 c_2)]⟩), (2, ⟨92, true, l2_31.flatMap encR91⟩)] : List (Nat × Blk))) (setLen hl2_31))) <| .nil _) (fun E hE => .c (DInv.at hE (k := 0) rfl rfl rfl) <| .c (DInv.at hE (k := 2) rfl rfl rfl) <| .n _) rfl ?_
        refine AWP.vc (s' := ⟨[(0, .ptr 1 0), (5, .sc (.int .i64 t5_24))], [(1, ⟨90, false, [.clo (.func 31) [] [], .own 2 2 0 l2_31.length, .sc (.int .i64 c_2)]⟩), (2, ⟨92, true, l2_31.flatMap encR91⟩)]⟩) (VC.sub (.c rfl <| .c rfl <| .n _) (.c rfl <| .c rfl <| .n _)) ?_
        refine AWP.region (.cons (.move (lt1 rfl) (.tmp rfl)) <| .cons (.assign (lt1 rfl) (.tmp rfl)) <| ARun.nil _ _ _) ?_
        exact endJ (t5_24, l2_31) h (VC.sub (.c rfl <| .c rfl <| .n _) (.c rfl <| .c rfl <| .n _))
    · have h := iteF hc h
      refine AWP.exit ?_
      exact endJ x_22.2 h (VC.sub (.n _) (.c rfl <| .c rfl <| .n _))
theorem c36 {β1 : Bool} (n : Nat) (a1 : (List Int)) {r : R89} (h : m36 n a1 = some r) : Spec Try.prog 36 [] [.clo (.func 31) [] [], .rd β1 a1.length (a1.flatMap (encI .i64))] [] (.ptr 1 0) [(2, ⟨92, true, r.l.flatMap encR91⟩), (1, ⟨90, false, [.clo (.func 31) [] [], .own 2 2 0 r.l.length, .sc (.int .i64 r.pushed)]⟩)] := by
  refine Spec.of (fn := Try.f36) Try.func36 Try.ntmps36 rfl rfl (le1 rfl) (fun w0 Zs Zb T0 ι0 => ?_)
  unfold m36 at h
  refine AWP.seq ?_
  refine AWP.region (.cons (.assign (lt1 rfl) (.const _ _ _)) <| ARun.nil _ _ _) ?_
  refine AWP.vc (s' := ⟨[(0, .clo (.func 31) [] []), (1, .rd β1 a1.length (a1.flatMap (encI .i64)))], []⟩) (VC.sub (.c rfl <| .c rfl <| .n _) (.n _)) ?_
  refine AWP.seq ?_
  obtain ⟨y_1, hy_1, h⟩ := bindS h
  refine AWP.region (.cons (.move (lt1 rfl) (.tmp rfl)) <| .cons (.call (σ := sgT [(1, 1), (91, 2)]) (bw := false) (lt1 rfl) (c38 n hy_1) (.cons (.tmp rfl) (.ren rfl) (.nil)) (CallOk.mk' (.n) rfl)) <| .cons (.assign (lt1 rfl) (.tmp rfl)) <| ARun.nil _ _ _) ?_
  refine AWP.vc (s' := ⟨[(1, .rd β1 a1.length (a1.flatMap (encI .i64))), (5, .ptr 1 0)], [(2, ⟨92, true, y_1.l.flatMap encR91⟩), (1, ⟨90, false, [.clo (.func 31) [] [], .own 2 2 0 y_1.l.length, .sc (.int .i64 y_1.pushed)]⟩)]⟩) (VC.sub (.c rfl <| .c rfl <| .n _) (.c rfl <| .c rfl <| .n _)) ?_
  refine AWP.seq ?_
  refine AWP.seq ?_
  refine AWP.region (.cons (.move (lt1 rfl) (.tmp rfl)) <| .cons (.lenRd (lt1 rfl) (.tmp rfl) Try.underlying62) <| .cons (.move (lt1 rfl) (.const _ _ _)) <| ARun.nil _ _ _) ?_
  refine AWP.vc (s' := ⟨[(5, .ptr 1 0), (10, .rd β1 a1.length (a1.flatMap (encI .i64))), (11, .sc (.int .i64 (a1.length : Int))), (12, .sc (.int .i64 (0 : Int)))], [(2, ⟨92, true, y_1.l.flatMap encR91⟩), (1, ⟨90, false, [.clo (.func 31) [] [], .own 2 2 0 y_1.l.length, .sc (.int .i64 y_1.pushed)]⟩)]⟩) (VC.sub (.c rfl <| .c rfl <| .c rfl <| .c rfl <| .n _) (.c rfl <| .c rfl <| .n _)) ?_
  refine AWP.joinB' (S := fun p_15 : Int × (List R91) => ⟨[(5, .ptr 1 0)], [(1, ⟨90, false, [.clo (.func 31) [] [], .own 2 2 0 p_15.2.length, .sc (.int .i64 p_15.1)]⟩), (2, ⟨92, true, p_15.2.flatMap encR91⟩)]⟩) h (fun p_15 h => ?_) (fun k_16 h => ?_)
  · refine AWP.seq ?_
    refine AWP.region (.cons (.move (lt1 rfl) (.tmp rfl)) <| .cons (.assign (lt1 rfl) (.tmp rfl)) <| ARun.nil _ _ _) ?_
    refine AWP.ret ?_
    obtain rfl := Option.some.inj h
    refine retJ (Res.vc (s' := ⟨[(4, .ptr 1 0)], [(2, ⟨92, true, p_15.2.flatMap encR91⟩), (1, ⟨90, false, [.clo (.func 31) [] [], .own 2 2 0 p_15.2.length, .sc (.int .i64 p_15.1)]⟩)]⟩) (VC.sub (.c rfl <| .n _) (.c rfl <| .c rfl <| .n _)) ?_)
    refine Res.sub (H := [(2, ⟨92, true, p_15.2.flatMap encR91⟩), (1, ⟨90, false, [.clo (.func 31) [] [], .own 2 2 0 p_15.2.length, .sc (.int .i64 p_15.1)]⟩)]) (.c rfl <| .c rfl <| .n _) ?_
    exact Res.of rfl (.cons (.tmp rfl) (.nil)) rfl rfl
  · refine AWP.vc (s' := ⟨[(5, .ptr 1 0), (10, .rd β1 a1.length (a1.flatMap (encI .i64))), (11, .sc (.int .i64 (a1.length : Int))), (12, .sc (.int .i64 (0 : Int)))], [(1, ⟨90, false, [.clo (.func 31) [] [], .own 2 2 0 y_1.l.length, .sc (.int .i64 y_1.pushed)]⟩), (2, ⟨92, true, y_1.l.flatMap encR91⟩)]⟩) (VC.sub (.c rfl <| .c rfl <| .c rfl <| .c rfl <| .n _) (.c rfl <| .c rfl <| .n _)) ?_
    refine AWP.loopM (S := fun x_10 : Int × Int × (List R91) => ⟨[(5, .ptr 1 0), (10, .rd β1 a1.length (a1.flatMap (encI .i64))), (11, .sc (.int .i64 (a1.length : Int))), (12, .sc (.int .i64 x_10.1))], [(1, ⟨90, false, [.clo (.func 31) [] [], .own 2 2 0 x_10.2.2.length, .sc (.int .i64 x_10.2.1)]⟩), (2, ⟨92, true, x_10.2.2.flatMap encR91⟩)]⟩) (x := ((0 : Int), y_1.pushed, y_1.l)) (fun nx_11 x_10 h => ?_) h
    unfold m36_L1 at h
    refine AWP.seq ?_
    refine AWP.region (.cons (.lss (lt1 rfl) (.tmp rfl) (.tmp rfl)) <| ARun.nil _ _ _) ?_
    refine AWP.vc (s' := ⟨[(5, .ptr 1 0), (10, .rd β1 a1.length (a1.flatMap (encI .i64))), (11, .sc (.int .i64 (a1.length : Int))), (12, .sc (.int .i64 x_10.1)), (13, .sc (.bool (decide (x_10.1 < (a1.length : Int)))))], [(1, ⟨90, false, [.clo (.func 31) [] [], .own 2 2 0 x_10.2.2.length, .sc (.int .i64 x_10.2.1)]⟩), (2, ⟨92, true, x_10.2.2.flatMap encR91⟩)]⟩) (VC.sub (.c rfl <| .c rfl <| .c rfl <| .c rfl <| .c rfl <| .n _) (.c rfl <| .c rfl <| .n _)) ?_
    refine AWP.seq ?_
    refine AWP.cond (.tmp rfl) (fun hc => ?_) (fun hc => ?_)
    · have h := iteT hc h
      refine AWP.skip ?_
      refine AWP.seq ?_
      refine AWP.block ?_
      refine AWP.seq ?_
      obtain ⟨y_12, hy_12, h⟩ := bindS h
      refine AWP.region (.cons (.indexRd (enc := (encI .i64)) (lt1 rfl) (.tmp rfl) (.tmp rfl) Try.underlying62 sz3 (encI_len .i64) rfl hy_12) <| .cons (.loadR (v := .sc (.int .i64 y_12)) (lt1 rfl) (.tmp rfl) one3 rfl) <| .cons (.assign (lt1 rfl) (.tmp rfl)) <| ARun.nil _ _ _) ?_
      refine AWP.vc (s' := ⟨[(5, .ptr 1 0), (10, .rd β1 a1.length (a1.flatMap (encI .i64))), (11, .sc (.int .i64 (a1.length : Int))), (12, .sc (.int .i64 x_10.1)), (7, .sc (.int .i64 y_12))], [(1, ⟨90, false, [.clo (.func 31) [] [], .own 2 2 0 x_10.2.2.length, .sc (.int .i64 x_10.2.1)]⟩), (2, ⟨92, true, x_10.2.2.flatMap encR91⟩)]⟩) (VC.sub (.c rfl <| .c rfl <| .c rfl <| .c rfl <| .c rfl <| .n _) (.c rfl <| .c rfl <| .n _)) ?_
      obtain ⟨y_13, hy_13, h⟩ := bindS h
      refine AWP.region (.cons (.move (lt1 rfl) (.tmp rfl)) <| .cons (.move (lt1 rfl) (.tmp rfl)) <| .cons (.call (σ := sgT [(1, 1), (2, 2)]) (bw := false) (lt1 rfl) (c39 n x_10.2.2 x_10.2.1 y_12 hy_13) (.cons (.tmp rfl) (.ren rfl) (.cons (.tmp rfl) (.ren rfl) (.nil))) (CallOk.mk' (.c rfl (.c rfl (.n))) rfl)) <| ARun.nil _ _ _) ?_
      refine AWP.vc (s' := ⟨[(5, .ptr 1 0), (10, .rd β1 a1.length (a1.flatMap (encI .i64))), (11, .sc (.int .i64 (a1.length : Int))), (12, .sc (.int .i64 x_10.1))], [(1, ⟨90, false, [.clo (.func 31) [] [], .own 2 2 0 y_13.2.length, .sc (.int .i64 y_13.1)]⟩), (2, ⟨92, true, y_13.2.flatMap encR91⟩)]⟩) (VC.sub (.c rfl <| .c rfl <| .c rfl <| .c rfl <| .n _) (.c rfl <| .c rfl <| .n _)) ?_
      obtain ⟨t12_14, ht12_14, h⟩ := letS h
      refine AWP.region (.cons (.add (lt1 rfl) (.tmp rfl) (.const _ _ _)) <| .cons (.move (lt1 rfl) (.tmp rfl)) <| ARun.nil _ _ _) ?_
      exact endJ (t12_14, y_13.1, y_13.2) h (by subst ht12_14; exact VC.sub (.c rfl <| .c rfl <| .c rfl <| .c rfl <| .n _) (.c rfl <| .c rfl <| .n _))
    · have h := iteF hc h
      refine AWP.exit ?_
      exact endJ (x_10.2.1, x_10.2.2) h (VC.sub (.c rfl <| .n _) (.c rfl <| .c rfl <| .n _))
theorem c37 (n : Nat) (a0_b1_b : (List R91)) (a0_b2 : Int) {r : Unit} (h : m37 n a0_b1_b a0_b2 = some r) : Spec Try.prog 37 [1, 2] [.ptr 1 0] [(1, ⟨90, false, [.clo (.func 31) [] [], .own 2 2 0 a0_b1_b.length, .sc (.int .i64 a0_b2)]⟩), (2, ⟨92, true, a0_b1_b.flatMap encR91⟩)] (.clo (.func 40) [] [.ptr 3 0]) [(1, ⟨90, false, [.clo (.func 31) [] [], .own 2 2 0 a0_b1_b.length, .sc (.int .i64 a0_b2)]⟩), (2, ⟨92, true, a0_b1_b.flatMap encR91⟩), (3, ⟨79, false, [.ptr 1 0]⟩)] := by
  refine Spec.of (fn := Try.f37) Try.func37 Try.ntmps37 rfl rfl (le1 rfl) (fun w0 Zs Zb T0 ι0 => ?_)
  unfold m37 at h
  refine AWP.seq ?_
  refine AWP.region (.cons (.box (t := 3) (n := 1) (lt1 rfl) (nm rfl) (.tmp rfl) (by first | exact ⟨rfl, rfl⟩ | rfl) rfl) <| .cons (.assign (lt1 rfl) (.const _ _ _)) <| ARun.nil _ _ _) ?_
  refine AWP.vc (s' := ⟨[(1, .ptr 3 0)], [(3, ⟨79, false, [.ptr 1 0]⟩), (1, ⟨90, false, [.clo (.func 31) [] [], .own 2 2 0 a0_b1_b.length, .sc (.int .i64 a0_b2)]⟩), (2, ⟨92, true, a0_b1_b.flatMap encR91⟩)]⟩) (VC.sub (.c rfl <| .n _) (.c rfl <| .c rfl <| .c rfl <| .n _)) ?_
  refine AWP.seq ?_
  refine AWP.region (.cons (.makeFunc (lt1 rfl) (.nil) (.cons (.tmp rfl) (.nil))) <| .cons (.assign (lt1 rfl) (.tmp rfl)) <| ARun.nil _ _ _) ?_
  refine AWP.ret ?_
  obtain rfl := Option.some.inj h
  refine retJ (Res.vc (s' := ⟨[(2, .clo (.func 40) [] [.ptr 3 0])], [(3, ⟨79, false, [.ptr 1 0]⟩), (1, ⟨90, false, [.clo (.func 31) [] [], .own 2 2 0 a0_b1_b.length, .sc (.int .i64 a0_b2)]⟩), (2, ⟨92, true, a0_b1_b.flatMap encR91⟩)]⟩) (VC.sub (.c rfl <| .n _) (.c rfl <| .c rfl <| .c rfl <| .n _)) ?_)
  refine Res.sub (H := [(3, ⟨79, false, [.ptr 1 0]⟩), (1, ⟨90, false, [.clo (.func 31) [] [], .own 2 2 0 a0_b1_b.length, .sc (.int .i64 a0_b2)]⟩), (2, ⟨92, true, a0_b1_b.flatMap encR91⟩)]) (.c rfl <| .c rfl <| .c rfl <| .n _) ?_
  exact Res.of rfl (.cons (.tmp rfl) (.nil)) rfl rfl
theorem c44 {β1 : Bool} (n : Nat) (a0 : (List R91)) {r : (List R91)} (h : m44 n a0 = some r) : Spec Try.prog 44 [] [.rd β1 a0.length (a0.flatMap encR91)] [] (.own 1 2 0 r.length) [(1, ⟨92, true, r.flatMap encR91⟩)] := by
  refine Spec.of (fn := Try.f44) Try.func44 Try.ntmps44 rfl rfl (le1 rfl) (fun w0 Zs Zb T0 ι0 => ?_)
  unfold m44 at h
  refine AWP.seq ?_
  refine AWP.region (.cons (.assign (lt1 rfl) (.const _ _ _)) <| ARun.nil _ _ _) ?_
  refine AWP.vc (s' := ⟨[(0, .rd β1 a0.length (a0.flatMap encR91))], []⟩) (VC.sub (.c rfl <| .n _) (.n _)) ?_
  refine AWP.seq ?_
  refine AWP.seq ?_
  refine AWP.regionE (S := fun q_1 => ⟨[(0, .rd β1 a0.length (a0.flatMap encR91)), (4, .sc (.bool (decide (a0.length = 0 ∧ q_1 = 0))))], []⟩) (.cons (.move (lt1 rfl) (.tmp rfl)) <| .consE (AStepE.eqNil0 (lt1 rfl) (.tmp rfl) Try.underlying88) <| fun q_1 => ARunE.nilV q_1 (VC.sub (.c rfl <| .c rfl <| .n _) (.n _))) (fun q_1 => ?_)
  refine AWP.cond (.tmp rfl) (fun hc => ?_) (fun hc => ?_)
  · have h := cloneNil hc h
    refine AWP.seq ?_
    refine AWP.region (.cons (.assign (lt1 rfl) (.const _ _ _)) <| ARun.nil _ _ _) ?_
    refine AWP.ret ?_
    obtain rfl := Option.some.inj h
    refine retJ (Res.vc (s' := ⟨[(2, .own 1 2 0 ([] : List R91).length)], [(1, ⟨92, true, ([] : List R91).flatMap encR91⟩)]⟩) (VC.trans (VC.nilOwn (d := 2) (t := 1) (sz := 2) (E := 92) rfl (nm rfl)) (VC.sub (.c rfl <| .n _) (.c rfl <| .n _))) ?_)
    refine Res.sub (H := [(1, ⟨92, true, ([] : List R91).flatMap encR91⟩)]) (.c rfl <| .n _) ?_
    exact Res.of rfl (.cons (.tmp rfl) (.nil)) rfl rfl
  · refine AWP.skip ?_
    refine AWP.seq ?_
    obtain ⟨l1_2, hl1_2, h⟩ := bindS h
    refine AWP.region (.cons (.buildSlice (t := 1) (out := ([] : List R91).flatMap encR91) (lt1 rfl) (nm rfl) (.nil) Try.underlying88 zero92 el92 (by decide) (by decide) rfl (still_all encR91_still _)) <| .cons (.move (lt1 rfl) (.tmp rfl)) <| .cons (.app (enc := encR91) (lt1 rfl) (nm rfl) (.tmp rfl) (Src.rd (.tmp rfl) (flatMap_length encR91_len _) (one_all encR91_one _) (.inr (scal_all encR91_scal _))) Try.underlying88 ⟨_, Try.underlying88, by intro k hk; cases hk⟩ el92 rfl encR91_len rfl rfl (by decide) hl1_2) <| .cons (.assign (lt1 rfl) (.tmp rfl)) <| ARun.nil _ _ _) ?_
    refine AWP.ret ?_
    obtain rfl := Option.some.inj h
    refine retJ (Res.vc (s' := ⟨[(2, .own 1 2 0 l1_2.length)], [(1, ⟨92, true, l1_2.flatMap encR91⟩)]⟩) (VC.sub (.c rfl <| .n _) (.c rfl <| .n _)) ?_)
    refine Res.sub (H := [(1, ⟨92, true, l1_2.flatMap encR91⟩)]) (.c rfl <| .n _) ?_
    exact Res.of rfl (.cons (.tmp rfl) (.nil)) rfl rfl
theorem c41 (n : Nat) (a0_b1_b : (List R91)) (a0_b2 : Int) {r : R89} (h : m41 n a0_b1_b a0_b2 = some r) : Spec Try.prog 41 [1, 2] [.ptr 1 0] [(1, ⟨90, false, [.clo (.func 31) [] [], .own 2 2 0 a0_b1_b.length, .sc (.int .i64 a0_b2)]⟩), (2, ⟨92, true, a0_b1_b.flatMap encR91⟩)] (.ptr 4 0) [(1, ⟨90, false, [.clo (.func 31) [] [], .own 2 2 0 a0_b1_b.length, .sc (.int .i64 a0_b2)]⟩), (2, ⟨92, true, a0_b1_b.flatMap encR91⟩), (3, ⟨92, true, r.l.flatMap encR91⟩), (4, ⟨90, false, [.clo (.func 31) [] [], .own 3 2 0 r.l.length, .sc (.int .i64 r.pushed)]⟩)] := by
  refine Spec.of (fn := Try.f41) Try.func41 Try.ntmps41 rfl rfl (le1 rfl) (fun w0 Zs Zb T0 ι0 => ?_)
  unfold m41 at h
  refine AWP.seq ?_
  refine AWP.region (.cons (.assign (lt1 rfl) (.const _ _ _)) <| ARun.nil _ _ _) ?_
  refine AWP.vc (s' := ⟨[(0, .ptr 1 0)], [(1, ⟨90, false, [.clo (.func 31) [] [], .own 2 2 0 a0_b1_b.length, .sc (.int .i64 a0_b2)]⟩), (2, ⟨92, true, a0_b1_b.flatMap encR91⟩)]⟩) (VC.sub (.c rfl <| .n _) (.c rfl <| .c rfl <| .n _)) ?_
  refine AWP.seq ?_
  refine AWP.seq ?_
  refine AWP.region (.cons (.move (lt1 rfl) (.tmp rfl)) <| .cons (.ptrNil0 (lt1 rfl) (.tmp rfl) Try.underlying79) <| ARun.nil _ _ _) ?_
  refine AWP.vc (s' := ⟨[(0, .ptr 1 0), (4, .sc (.bool false))], [(1, ⟨90, false, [.clo (.func 31) [] [], .own 2 2 0 a0_b1_b.length, .sc (.int .i64 a0_b2)]⟩), (2, ⟨92, true, a0_b1_b.flatMap encR91⟩)]⟩) (VC.sub (.c rfl <| .c rfl <| .n _) (.c rfl <| .c rfl <| .n _)) ?_
  refine AWP.cond (.tmp rfl) (fun hc => by cases hc) (fun _ => ?_)
  refine AWP.skip ?_
  refine AWP.seq ?_
  obtain ⟨y_1, hy_1, h⟩ := bindS h
  refine AWP.draw (s' := ⟨[(2, .ptr 4 0)], [(4, ⟨90, false, [.clo (.func 31) [] [], .own 3 2 0 y_1.length, .sc (.int .i64 a0_b2)]⟩), (3, ⟨92, true, y_1.flatMap encR91⟩), (1, ⟨90, false, [.clo (.func 31) [] [], .own 2 2 0 a0_b1_b.length, .sc (.int .i64 a0_b2)]⟩), (2, ⟨92, true, a0_b1_b.flatMap encR91⟩)]⟩) mixed [⟨0, .ptr 1 0, none, []⟩, ⟨4, .sc (.bool false), none, []⟩, ⟨5, .ptr 1 0, some 0, []⟩, ⟨6, .ptr 1 0, some 1, []⟩, ⟨7, .ptr 1 (0 + 0), some 2, []⟩, ⟨8, .clo (.func 31) [] [], some 3, []⟩, ⟨9, .ptr 1 0, some 4, []⟩, ⟨10, .ptr 1 0, some 5, []⟩, ⟨11, .ptr 1 (0 + 1), some 6, []⟩, ⟨12, .own 2 2 0 a0_b1_b.length, some 7, []⟩, ⟨13, .own 3 2 0 y_1.length, some 8, []⟩, ⟨14, .ptr 1 0, some 9, []⟩, ⟨15, .ptr 1 0, some 10, []⟩, ⟨16, .ptr 1 (0 + 2), some 11, []⟩, ⟨17, .sc (.int .i64 a0_b2), some 12, []⟩, ⟨18, .agg [.clo (.func 31) [] [], .own 3 2 0 y_1.length, .sc (.int .i64 a0_b2)], some 13, []⟩, ⟨19, .ptr 4 0, some 14, []⟩, ⟨2, .ptr 4 0, some 15, []⟩] [⟨[0], 0, 1, some (5, .ptr 1 0), []⟩, ⟨[2], 0, 1, some (6, .ptr 1 0), []⟩, ⟨[3], 0, 1, some (7, .ptr 1 (0 + 0)), []⟩, ⟨[4], 0, 1, some (8, .clo (.func 31) [] []), []⟩, ⟨[0], 0, 0, some (9, .ptr 1 0), []⟩, ⟨[6], 0, 0, some (10, .ptr 1 0), []⟩, ⟨[7], 0, 0, some (11, .ptr 1 (0 + 1)), []⟩, ⟨[8], 0, 0, some (12, .own 2 2 0 a0_b1_b.length), []⟩, ⟨[9], 0, 0, some (13, .own 3 2 0 y_1.length), [3]⟩, ⟨[0], 0, 1, some (14, .ptr 1 0), []⟩, ⟨[11], 0, 1, some (15, .ptr 1 0), []⟩, ⟨[12], 0, 1, some (16, .ptr 1 (0 + 2)), []⟩, ⟨[13], 0, 1, some (17, .sc (.int .i64 a0_b2)), []⟩, ⟨[5, 10, 14], 1, 1, some (18, .agg [.clo (.func 31) [] [], .own 3 2 0 y_1.length, .sc (.int .i64 a0_b2)]), []⟩, ⟨[15], 1, 1, some (19, .ptr 4 0), [4]⟩, ⟨[16], 2, 2, some (2, .ptr 4 0), []⟩] [8, 14] [[(1, ⟨90, false, [.clo (.func 31) [] [], .own 2 2 0 a0_b1_b.length, .sc (.int .i64 a0_b2)]⟩), (2, ⟨92, true, a0_b1_b.flatMap encR91⟩)], [(3, ⟨92, true, y_1.flatMap encR91⟩), (1, ⟨90, false, [.clo (.func 31) [] [], .own 2 2 0 a0_b1_b.length, .sc (.int .i64 a0_b2)]⟩), (2, ⟨92, true, a0_b1_b.flatMap encR91⟩)], [(4, ⟨90, false, [.clo (.func 31) [] [], .own 3 2 0 y_1.length, .sc (.int .i64 a0_b2)]⟩), (3, ⟨92, true, y_1.flatMap encR91⟩), (1, ⟨90, false, [.clo (.func 31) [] [], .own 2 2 0 a0_b1_b.length, .sc (.int .i64 a0_b2)]⟩), (2, ⟨92, true, a0_b1_b.flatMap encR91⟩)]] [[], [0], [0, 1], [0, 1, 2], [], [4], [4, 5], [4, 5, 6], [4, 5, 6, 7], [], [9], [9, 10], [9, 10, 11], [0, 1, 2, 3, 4, 5, 6, 7, 8, 9, 10, 11, 12], [0, 1, 2, 3, 4, 5, 6, 7, 8, 9, 10, 11, 12, 13], [0, 1, 2, 3, 4, 5, 6, 7, 8, 9, 10, 11, 12, 13, 14]] (by kernel_rfl) (by kernel_rfl) (BornL.ok (.o <| .o <| .b rfl rfl <| .b rfl rfl <| .b rfl rfl <| .b rfl rfl <| .b rfl rfl <| .b rfl rfl <| .b rfl rfl <| .b rfl rfl <| .b rfl rfl <| .b rfl rfl <| .b rfl rfl <| .b rfl rfl <| .b rfl rfl <| .b rfl rfl <| .b rfl rfl <| .b rfl rfl <| .n)) (BaseL.ok (.o rfl <| .o rfl <| .b <| .b <| .b <| .b <| .b <| .b <| .b <| .b <| .b <| .b <| .b <| .b <| .b <| .b <| .b <| .b <| .n)) rfl (by decide) (allLt rfl) (.read rfl (.c (.put (fun E hE => .move (lt1 rfl) (.tmp (hE.at (k := 0) rfl)))) (.c (.put (fun E hE => .move (lt1 rfl) (.tmp (hE.at (k := 0) rfl)))) (.n))) <| .read rfl (.c (.put (fun E hE => .nilCheck (lt1 rfl) (.tmp (hE.at (k := 0) rfl)) trivial)) (.c (.put (fun E hE => .nilCheck (lt1 rfl) (.tmp (hE.at (k := 0) rfl)) trivial)) (.n))) <| .read rfl (.c (.put (fun E hE => .fieldP (lt1 rfl) (.tmp (hE.at (k := 0) rfl)) fld90_0)) (.c (.put (fun E hE => .fieldP (lt1 rfl) (.tmp (hE.at (k := 0) rfl)) fld90_0)) (.n))) <| .read rfl (.c (.put (fun E hE => .loadP (lt1 rfl) (.tmp (hE.at (k := 0) rfl)) one64 rfl rfl rfl)) (.c (.put (fun E hE => .loadP (lt1 rfl) (.tmp (hE.at (k := 0) rfl)) one64 rfl rfl rfl)) (.n))) <| .read rfl (.c (.put (fun E hE => .move (lt1 rfl) (.tmp (hE.at (k := 0) rfl)))) (.n)) <| .read rfl (.c (.put (fun E hE => .nilCheck (lt1 rfl) (.tmp (hE.at (k := 0) rfl)) trivial)) (.n)) <| .read rfl (.c (.put (fun E hE => .fieldP (lt1 rfl) (.tmp (hE.at (k := 0) rfl)) fld90_1)) (.n)) <| .read rfl (.c (.put (fun E hE => .loadP (lt1 rfl) (.tmp (hE.at (k := 0) rfl)) one88 rfl rfl rfl)) (.n)) <| .turn rfl rfl rfl rfl rfl (.called (fun E hE => AStep.call (σ := fun _ => 3) (bw := true) (lt1 rfl) (c44 (β1 := true) n a0_b1_b hy_1) (.cons (.tmp (hE.at (k := 0) rfl)) (.lendRow rfl rfl encR91_len rfl) (.nil)) (CallOk.mk' (.n) rfl)) rfl rfl rfl) <| .read rfl (.c (.put (fun E hE => .move (lt1 rfl) (.tmp (hE.at (k := 0) rfl)))) (.c (.put (fun E hE => .move (lt1 rfl) (.tmp (hE.at (k := 0) rfl)))) (.n))) <| .read rfl (.c (.put (fun E hE => .nilCheck (lt1 rfl) (.tmp (hE.at (k := 0) rfl)) trivial)) (.c (.put (fun E hE => .nilCheck (lt1 rfl) (.tmp (hE.at (k := 0) rfl)) trivial)) (.n))) <| .read rfl (.c (.put (fun E hE => .fieldP (lt1 rfl) (.tmp (hE.at (k := 0) rfl)) fld90_2)) (.c (.put (fun E hE => .fieldP (lt1 rfl) (.tmp (hE.at (k := 0) rfl)) fld90_2)) (.n))) <| .read rfl (.c (.put (fun E hE => .loadP (lt1 rfl) (.tmp (hE.at (k := 0) rfl)) one3 rfl rfl rfl)) (.c (.put (fun E hE => .loadP (lt1 rfl) (.tmp (hE.at (k := 0) rfl)) one3 rfl rfl rfl)) (.n))) <| .read rfl (.c (.put (fun E hE => .buildO (offs := [(0, 1), (1, 1), (2, 1)]) (lt1 rfl) (.cons (.tmp (hE.at (k := 0) rfl)) (by first | exact ⟨rfl, rfl⟩ | rfl) (.cons (.tmp (hE.at (k := 1) rfl)) (by first | exact ⟨rfl, rfl⟩ | rfl) (.cons (.tmp (hE.at (k := 2) rfl)) (by first | exact ⟨rfl, rfl⟩ | rfl) (.nil)))) zero90 offs90 rfl)) (.n)) <| .turn rfl rfl rfl rfl rfl (.new (fun E hE => .box (t := 4) (n := 3) (lt1 rfl) (nm rfl) (.tmp (hE.at (k := 0) rfl)) (by first | exact ⟨rfl, rfl⟩ | rfl) rfl) rfl) <| .read rfl (.c (.put (fun E hE => .assign (lt1 rfl) (.tmp (hE.at (k := 0) rfl)))) (.n)) <| .nil _) (fun E hE => .c (DInv.at hE (k := 17) rfl rfl rfl) <| .n _) rfl ?_
  refine AWP.ret ?_
  obtain rfl := Option.some.inj h
  refine retJ (Res.vc (s' := ⟨[(2, .ptr 4 0)], [(3, ⟨92, true, y_1.flatMap encR91⟩), (4, ⟨90, false, [.clo (.func 31) [] [], .own 3 2 0 y_1.length, .sc (.int .i64 a0_b2)]⟩), (1, ⟨90, false, [.clo (.func 31) [] [], .own 2 2 0 a0_b1_b.length, .sc (.int .i64 a0_b2)]⟩), (2, ⟨92, true, a0_b1_b.flatMap encR91⟩)]⟩) (VC.sub (.c rfl <| .n _) (.c rfl <| .c rfl <| .c rfl <| .c rfl <| .n _)) ?_)
  refine Res.sub (H := [(3, ⟨92, true, y_1.flatMap encR91⟩), (4, ⟨90, false, [.clo (.func 31) [] [], .own 3 2 0 y_1.length, .sc (.int .i64 a0_b2)]⟩), (1, ⟨90, false, [.clo (.func 31) [] [], .own 2 2 0 a0_b1_b.length, .sc (.int .i64 a0_b2)]⟩), (2, ⟨92, true, a0_b1_b.flatMap encR91⟩)]) (.c rfl <| .c rfl <| .c rfl <| .c rfl <| .n _) ?_
  exact Res.of rfl (.cons (.tmp rfl) (.nil)) rfl rfl
theorem c45 (n : Nat) (a0_b1_b : (List R91)) (a0_b2 : Int) {r : Int} (h : m45 n a0_b1_b a0_b2 = some r) : Spec Try.prog 45 [1, 2] [.ptr 1 0] [(1, ⟨90, false, [.clo (.func 31) [] [], .own 2 2 0 a0_b1_b.length, .sc (.int .i64 a0_b2)]⟩), (2, ⟨92, true, a0_b1_b.flatMap encR91⟩)] (.sc (.int .i64 r)) [(1, ⟨90, false, [.clo (.func 31) [] [], .own 2 2 0 a0_b1_b.length, .sc (.int .i64 a0_b2)]⟩), (2, ⟨92, true, a0_b1_b.flatMap encR91⟩)] := by
  refine Spec.of (fn := Try.f45) Try.func45 Try.ntmps45 rfl rfl (le1 rfl) (fun w0 Zs Zb T0 ι0 => ?_)
  unfold m45 at h
  refine AWP.seq ?_
  refine AWP.region (.cons (.assign (lt1 rfl) (.const _ _ _)) <| ARun.nil _ _ _) ?_
  refine AWP.vc (s' := ⟨[(0, .ptr 1 0)], [(1, ⟨90, false, [.clo (.func 31) [] [], .own 2 2 0 a0_b1_b.length, .sc (.int .i64 a0_b2)]⟩), (2, ⟨92, true, a0_b1_b.flatMap encR91⟩)]⟩) (VC.sub (.c rfl <| .n _) (.c rfl <| .c rfl <| .n _)) ?_
  refine AWP.seq ?_
  refine AWP.seq ?_
  refine AWP.region (.cons (.move (lt1 rfl) (.tmp rfl)) <| .cons (.ptrNil0 (lt1 rfl) (.tmp rfl) Try.underlying79) <| ARun.nil _ _ _) ?_
  refine AWP.vc (s' := ⟨[(0, .ptr 1 0), (4, .sc (.bool false))], [(1, ⟨90, false, [.clo (.func 31) [] [], .own 2 2 0 a0_b1_b.length, .sc (.int .i64 a0_b2)]⟩), (2, ⟨92, true, a0_b1_b.flatMap encR91⟩)]⟩) (VC.sub (.c rfl <| .c rfl <| .n _) (.c rfl <| .c rfl <| .n _)) ?_
  refine AWP.cond (.tmp rfl) (fun hc => by cases hc) (fun _ => ?_)
  refine AWP.skip ?_
  refine AWP.seq ?_
  refine AWP.region (.cons (.move (lt1 rfl) (.tmp rfl)) <| .cons (.nilCheck (lt1 rfl) (.tmp rfl) trivial) <| .cons (.fieldP (lt1 rfl) (.tmp rfl) fld90_1) <| .cons (.loadP (lt1 rfl) (.tmp rfl) one88 rfl rfl rfl) <| .cons (.lenOwn (lt1 rfl) (.tmp rfl) Try.underlying88) <| .cons (.assign (lt1 rfl) (.tmp rfl)) <| ARun.nil _ _ _) ?_
  refine AWP.ret ?_
  obtain rfl := Option.some.inj h
  refine retJ (Res.vc (s' := ⟨[(2, .sc (.int .i64 (a0_b1_b.length : Int)))], [(1, ⟨90, false, [.clo (.func 31) [] [], .own 2 2 0 a0_b1_b.length, .sc (.int .i64 a0_b2)]⟩), (2, ⟨92, true, a0_b1_b.flatMap encR91⟩)]⟩) (VC.sub (.c rfl <| .n _) (.c rfl <| .c rfl <| .n _)) ?_)
  refine Res.sub (H := [(1, ⟨90, false, [.clo (.func 31) [] [], .own 2 2 0 a0_b1_b.length, .sc (.int .i64 a0_b2)]⟩), (2, ⟨92, true, a0_b1_b.flatMap encR91⟩)]) (.c rfl <| .c rfl <| .n _) ?_
  exact Res.of rfl (.cons (.tmp rfl) (.nil)) rfl rfl
theorem c42 (n : Nat) (a0_b1_b : (List R91)) (a0_b2 : Int) {r : (Int × Bool × Int × (List R91))} (h : m42 n a0_b1_b a0_b2 = some r) : Spec Try.prog 42 [1, 2] [.ptr 1 0] [(1, ⟨90, false, [.clo (.func 31) [] [], .own 2 2 0 a0_b1_b.length, .sc (.int .i64 a0_b2)]⟩), (2, ⟨92, true, a0_b1_b.flatMap encR91⟩)] (.tup [.sc (.int .i64 r.1), .sc (.bool r.2.1)]) [(1, ⟨90, false, [.clo (.func 31) [] [], .own 2 2 0 r.2.2.2.length, .sc (.int .i64 r.2.2.1)]⟩), (2, ⟨92, true, r.2.2.2.flatMap encR91⟩)] := by
  refine Spec.of (fn := Try.f42) Try.func42 Try.ntmps42 rfl rfl (le1 rfl) (fun w0 Zs Zb T0 ι0 => ?_)
  unfold m42 at h
  refine AWP.seq ?_
  refine AWP.region (.cons (.assign (lt1 rfl) (.const _ _ _)) <| .cons (.assign (lt1 rfl) (.const _ _ _)) <| ARun.nil _ _ _) ?_
  refine AWP.vc (s' := ⟨[(0, .ptr 1 0), (2, .sc (.int .i64 (0 : Int)))], [(1, ⟨90, false, [.clo (.func 31) [] [], .own 2 2 0 a0_b1_b.length, .sc (.int .i64 a0_b2)]⟩), (2, ⟨92, true, a0_b1_b.flatMap encR91⟩)]⟩) (VC.sub (.c rfl <| .c rfl <| .n _) (.c rfl <| .c rfl <| .n _)) ?_
  refine AWP.seq ?_
  refine AWP.seq ?_
  obtain ⟨y_1, hy_1, h⟩ := bindS h
  refine AWP.region (.cons (.move (lt1 rfl) (.tmp rfl)) <| .cons (.keep (bw := false) (AStep.call (σ := sgT [(1, 1), (2, 2)]) (bw := false) (lt1 rfl) (c45 n a0_b1_b a0_b2 hy_1) (.cons (.tmp rfl) (.ren rfl) (.nil)) (CallOk.mk' (.c rfl (.c rfl (.n))) rfl)) (CallOk.mk' (.c rfl (.c rfl (.n))) rfl) rfl rfl) <| .cons (.eql (lt1 rfl) (.tmp rfl) (.const _ _ _)) <| ARun.nil _ _ _) ?_
  refine AWP.vc (s' := ⟨[(0, .ptr 1 0), (2, .sc (.int .i64 (0 : Int))), (11, .sc (.bool (decide (y_1 = (0 : Int)))))], [(1, ⟨90, false, [.clo (.func 31) [] [], .own 2 2 0 a0_b1_b.length, .sc (.int .i64 a0_b2)]⟩), (2, ⟨92, true, a0_b1_b.flatMap encR91⟩)]⟩) (VC.sub (.c rfl <| .c rfl <| .c rfl <| .n _) (.c rfl <| .c rfl <| .n _)) ?_
  refine AWP.cond (.tmp rfl) (fun hc => ?_) (fun hc => ?_)
  · have h := iteT hc h
    refine AWP.seq ?_
    refine AWP.region (.cons (.move (lt1 rfl) (.tmp rfl)) <| .cons (.assign (lt1 rfl) (.tmp rfl)) <| .cons (.assign (lt1 rfl) (.const _ _ _)) <| ARun.nil _ _ _) ?_
    refine AWP.ret ?_
    obtain rfl := Option.some.inj h
    refine retJ (Res.vc (s' := ⟨[(2, .sc (.int .i64 (0 : Int))), (3, .sc (.bool false))], [(1, ⟨90, false, [.clo (.func 31) [] [], .own 2 2 0 a0_b1_b.length, .sc (.int .i64 a0_b2)]⟩), (2, ⟨92, true, a0_b1_b.flatMap encR91⟩)]⟩) (VC.sub (.c rfl <| .c rfl <| .n _) (.c rfl <| .c rfl <| .n _)) ?_)
    refine Res.sub (H := [(1, ⟨90, false, [.clo (.func 31) [] [], .own 2 2 0 a0_b1_b.length, .sc (.int .i64 a0_b2)]⟩), (2, ⟨92, true, a0_b1_b.flatMap encR91⟩)]) (.c rfl <| .c rfl <| .n _) ?_
    exact Res.of rfl (.cons (.tmp rfl) (.cons (.tmp rfl) (.nil))) rfl rfl
  · have h := iteF hc h
    refine AWP.skip ?_
    refine AWP.seq ?_
    obtain ⟨y_2, hy_2, h⟩ := bindS h
    refine AWP.region (.cons (.move (lt1 rfl) (.tmp rfl)) <| .cons (.nilCheck (lt1 rfl) (.tmp rfl) trivial) <| .cons (.fieldP (lt1 rfl) (.tmp rfl) fld90_1) <| .cons (.loadP (lt1 rfl) (.tmp rfl) one88 rfl rfl rfl) <| .cons (.idxOwn (lt1 rfl) (.tmp rfl) (.const _ _ _) Try.underlying88 sz92 rfl hy_2) <| .cons (.fieldP (lt1 rfl) (.tmp rfl) fld92_0) <| .cons (.loadP (lt1 rfl) (.tmp rfl) one3 rfl (cell_at encR91_len hy_2 (lt1 rfl)) rfl) <| .cons (.assign (lt1 rfl) (.tmp rfl)) <| ARun.nil _ _ _) ?_
    refine AWP.vc (s' := ⟨[(0, .ptr 1 0), (2, .sc (.int .i64 y_2.x))], [(1, ⟨90, false, [.clo (.func 31) [] [], .own 2 2 0 a0_b1_b.length, .sc (.int .i64 a0_b2)]⟩), (2, ⟨92, true, a0_b1_b.flatMap encR91⟩)]⟩) (VC.sub (.c rfl <| .c rfl <| .n _) (.c rfl <| .c rfl <| .n _)) ?_
    refine AWP.seq ?_
    obtain ⟨t4_3, ht4_3, h⟩ := letS h
    refine AWP.region (.cons (.move (lt1 rfl) (.tmp rfl)) <| .cons (.nilCheck (lt1 rfl) (.tmp rfl) trivial) <| .cons (.fieldP (lt1 rfl) (.tmp rfl) fld90_1) <| .cons (.loadP (lt1 rfl) (.tmp rfl) one88 rfl rfl rfl) <| .cons (.lenOwn (lt1 rfl) (.tmp rfl) Try.underlying88) <| .cons (.sub (lt1 rfl) (.tmp rfl) (.const _ _ _)) <| .cons (.assign (lt1 rfl) (.tmp rfl)) <| ARun.nil _ _ _) ?_
    refine AWP.vc (s' := ⟨[(0, .ptr 1 0), (2, .sc (.int .i64 y_2.x)), (4, .sc (.int .i64 t4_3))], [(1, ⟨90, false, [.clo (.func 31) [] [], .own 2 2 0 a0_b1_b.length, .sc (.int .i64 a0_b2)]⟩), (2, ⟨92, true, a0_b1_b.flatMap encR91⟩)]⟩) (by subst ht4_3; exact VC.sub (.c rfl <| .c rfl <| .c rfl <| .n _) (.c rfl <| .c rfl <| .n _)) ?_
    refine AWP.seq ?_
    obtain ⟨y_4, hy_4, h⟩ := bindS h
    obtain ⟨y_5, hy_5, h⟩ := bindS h
    obtain ⟨l2_6, hl2_6, h⟩ := bindS h
    refine AWP.draw (s' := ⟨[(0, .ptr 1 0), (2, .sc (.int .i64 y_2.x)), (4, .sc (.int .i64 t4_3))], [(1, ⟨90, false, [.clo (.func 31) [] [], .own 2 2 0 l2_6.length, .sc (.int .i64 a0_b2)]⟩), (2, ⟨92, true, l2_6.flatMap encR91⟩)]⟩) mixed [⟨0, .ptr 1 0, none, []⟩, ⟨2, .sc (.int .i64 y_2.x), none, []⟩, ⟨4, .sc (.int .i64 t4_3), none, []⟩, ⟨26, .ptr 1 0, some 0, []⟩, ⟨27, .ptr 1 0, some 1, []⟩, ⟨28, .ptr 1 (0 + 1), some 2, []⟩, ⟨29, .own 2 2 0 a0_b1_b.length, some 3, []⟩, ⟨30, .ptr 1 0, some 4, []⟩, ⟨31, .ptr 1 0, some 5, []⟩, ⟨32, .ptr 1 (0 + 1), some 6, []⟩, ⟨33, .own 2 2 0 a0_b1_b.length, some 7, []⟩, ⟨34, .sc (.int .i64 t4_3), some 8, []⟩, ⟨35, .ptr 2 (0 + (t4_3).toNat * 2), some 9, []⟩, ⟨36, .agg [.sc (.int .i64 y_4.x), .sc (.int .i64 y_4.number)], some 10, []⟩, ⟨37, .ptr 2 (0 + ((0 : Int)).toNat * 2), some 11, []⟩] [⟨[0], 0, 0, some (26, .ptr 1 0), []⟩, ⟨[3], 0, 0, some (27, .ptr 1 0), []⟩, ⟨[4], 0, 0, some (28, .ptr 1 (0 + 1)), []⟩, ⟨[5], 0, 0, some (29, .own 2 2 0 a0_b1_b.length), []⟩, ⟨[0], 0, 0, some (30, .ptr 1 0), []⟩, ⟨[7], 0, 0, some (31, .ptr 1 0), []⟩, ⟨[8], 0, 0, some (32, .ptr 1 (0 + 1)), []⟩, ⟨[9], 0, 0, some (33, .own 2 2 0 a0_b1_b.length), []⟩, ⟨[2], 0, 1, some (34, .sc (.int .i64 t4_3)), []⟩, ⟨[10, 11], 0, 0, some (35, .ptr 2 (0 + (t4_3).toNat * 2)), []⟩, ⟨[12], 0, 0, some (36, .agg [.sc (.int .i64 y_4.x), .sc (.int .i64 y_4.number)]), []⟩, ⟨[6], 0, 0, some (37, .ptr 2 (0 + ((0 : Int)).toNat * 2)), []⟩, ⟨[14, 13], 0, 0, none, []⟩] [12] [[(1, ⟨90, false, [.clo (.func 31) [] [], .own 2 2 0 a0_b1_b.length, .sc (.int .i64 a0_b2)]⟩), (2, ⟨92, true, a0_b1_b.flatMap encR91⟩)], [(1, ⟨90, false, [.clo (.func 31) [] [], .own 2 2 0 l2_6.length, .sc (.int .i64 a0_b2)]⟩), (2, ⟨92, true, l2_6.flatMap encR91⟩)]] [[], [0], [0, 1], [0, 1, 2], [], [4], [4, 5], [4, 5, 6], [], [4, 5, 6, 7, 8], [4, 5, 6, 7, 8, 9], [0, 1, 2, 3, 4, 5, 6, 7, 8, 9, 10], [0, 1, 2, 3, 4, 5, 6, 7, 8, 9, 10, 11]] (by kernel_rfl) (by kernel_rfl) (BornL.ok (.o <| .o <| .o <| .b rfl rfl <| .b rfl rfl <| .b rfl rfl <| .b rfl rfl <| .b rfl rfl <| .b rfl rfl <| .b rfl rfl <| .b rfl rfl <| .b rfl rfl <| .b rfl rfl <| .b rfl rfl <| .b rfl rfl <| .n)) (BaseL.ok (.o rfl <| .o rfl <| .o rfl <| .b <| .b <| .b <| .b <| .b <| .b <| .b <| .b <| .b <| .b <| .b <| .b <| .n)) rfl (by decide) (allLt rfl) (.read rfl (.c (.put (fun E hE => .move (lt1 rfl) (.tmp (hE.at (k := 0) rfl)))) (.n)) <| .read rfl (.c (.put (fun E hE => .nilCheck (lt1 rfl) (.tmp (hE.at (k := 0) rfl)) trivial)) (.n)) <| .read rfl (.c (.put (fun E hE => .fieldP (lt1 rfl) (.tmp (hE.at (k := 0) rfl)) fld90_1)) (.n)) <| .read rfl (.c (.put (fun E hE => .loadP (lt1 rfl) (.tmp (hE.at (k := 0) rfl)) one88 rfl rfl rfl)) (.n)) <| .read rfl (.c (.put (fun E hE => .move (lt1 rfl) (.tmp (hE.at (k := 0) rfl)))) (.n)) <| .read rfl (.c (.put (fun E hE => .nilCheck (lt1 rfl) (.tmp (hE.at (k := 0) rfl)) trivial)) (.n)) <| .read rfl (.c (.put (fun E hE => .fieldP (lt1 rfl) (.tmp (hE.at (k := 0) rfl)) fld90_1)) (.n)) <| .read rfl (.c (.put (fun E hE => .loadP (lt1 rfl) (.tmp (hE.at (k := 0) rfl)) one88 rfl rfl rfl)) (.n)) <| .pure rfl (fun H => .put (fun E hE => .move (lt1 rfl) (.tmp (hE.at (k := 0) rfl)))) <| .read rfl (.c (.put (fun E hE => .idxOwn (lt1 rfl) (.tmp (hE.at (k := 0) rfl)) (.tmp (hE.at (k := 1) rfl)) Try.underlying88 sz92 rfl hy_4)) (.n)) <| .read rfl (.c (.put (fun E hE => .loadPA (lt1 rfl) (.tmp (hE.at (k := 0) rfl)) agg92 rfl (cells_at encR91_len hy_4) rfl rfl)) (.n)) <| .read rfl (.c (.put (fun E hE => .idxOwn (lt1 rfl) (.tmp (hE.at (k := 0) rfl)) (.const _ _ _) Try.underlying88 sz92 rfl hy_5)) (.n)) <| .turn rfl rfl rfl rfl rfl (.store (fun E hE => .storePA (.tmp (hE.at (k := 0) rfl)) (.tmp (hE.at (k := 1) rfl)) sz92 rfl rfl (le_at encR91_len hy_5) (one_lit rfl) (fun _ => still_lit rfl) (splL_at encR91_len hy_5 hl2_6)) (congrArg (fun n_ : Nat => ([(1, ⟨90, false, [.clo (.func 31) [] [], .own 2 2 0 n_, .sc (.int .i64 a0_b2)]⟩), (2, ⟨92, true, l2_6.flatMap encR91⟩)] : List (Nat × Blk))) (setLen hl2_6))) <| .nil _) (fun E hE => .c (DInv.at hE (k := 0) rfl rfl rfl) <| .c (DInv.at hE (k := 1) rfl rfl rfl) <| .c (DInv.at hE (k := 2) rfl rfl rfl) <| .n _) rfl ?_
    refine AWP.vc (s' := ⟨[(0, .ptr 1 0), (2, .sc (.int .i64 y_2.x)), (4, .sc (.int .i64 t4_3))], [(1, ⟨90, false, [.clo (.func 31) [] [], .own 2 2 0 l2_6.length, .sc (.int .i64 a0_b2)]⟩), (2, ⟨92, true, l2_6.flatMap encR91⟩)]⟩) (VC.sub (.c rfl <| .c rfl <| .c rfl <| .n _) (.c rfl <| .c rfl <| .n _)) ?_
    refine AWP.seq ?_
    obtain ⟨y_7, hy_7, h⟩ := bindS h
    obtain ⟨l2_8, hl2_8, h⟩ := bindS h
    refine AWP.region (.cons (.move (lt1 rfl) (.tmp rfl)) <| .cons (.nilCheck (lt1 rfl) (.tmp rfl) trivial) <| .cons (.fieldP (lt1 rfl) (.tmp rfl) fld90_1) <| .cons (.loadP (lt1 rfl) (.tmp rfl) one88 rfl rfl rfl) <| .cons (.move (lt1 rfl) (.tmp rfl)) <| .cons (.buildO (offs := [(0, 1), (1, 1)]) (lt1 rfl) (.nil) zero92 offs92 rfl) <| .cons (.idxOwn (lt1 rfl) (.tmp rfl) (.tmp rfl) Try.underlying88 sz92 rfl hy_7) <| .cons (.storePA (.tmp rfl) (.tmp rfl) sz92 rfl rfl (le_at encR91_len hy_7) (one_lit rfl) (fun _ => still_lit rfl) (splL_at encR91_len hy_7 hl2_8)) <| .vc (VC.cellEq (t := 1) (i := 1) (v' := .own 2 2 0 l2_8.length) rfl rfl rfl (congrArg (fun n_ => AV.own 2 2 0 n_) (Eq.symm (setLen hl2_8)))) <| ARun.nil _ _ _) ?_
    refine AWP.vc (s' := ⟨[(0, .ptr 1 0), (2, .sc (.int .i64 y_2.x)), (4, .sc (.int .i64 t4_3))], [(1, ⟨90, false, [.clo (.func 31) [] [], .own 2 2 0 l2_8.length, .sc (.int .i64 a0_b2)]⟩), (2, ⟨92, true, l2_8.flatMap encR91⟩)]⟩) (VC.sub (.c rfl <| .c rfl <| .c rfl <| .n _) (.c rfl <| .c rfl <| .n _)) ?_
    refine AWP.seq ?_
    obtain ⟨l2_9, hl2_9, h⟩ := bindS h
    refine AWP.region (.cons (.move (lt1 rfl) (.tmp rfl)) <| .cons (.move (lt1 rfl) (.tmp rfl)) <| .cons (.nilCheck (lt1 rfl) (.tmp rfl) trivial) <| .cons (.fieldP (lt1 rfl) (.tmp rfl) fld90_1) <| .cons (.loadP (lt1 rfl) (.tmp rfl) one88 rfl rfl rfl) <| .cons (.move (lt1 rfl) (.tmp rfl)) <| .cons (.slOwn (enc := encR91) (gh := 0) (gh' := 0) (lt1 rfl) (.tmp rfl) rfl Try.underlying88 sz92 encR91_len rfl (.none _ _ _) (.some (.tmp rfl)) hl2_9 rfl) <| .cons (.nilCheck (lt1 rfl) (.tmp rfl) trivial) <| .cons (.fieldP (lt1 rfl) (.tmp rfl) fld90_1) <| .cons (.storeP (.tmp rfl) (.tmp rfl) sz88 rfl (lt1 rfl) rfl (by intro h; cases h) rfl) <| ARun.nil _ _ _) ?_
    refine AWP.vc (s' := ⟨[(0, .ptr 1 0), (2, .sc (.int .i64 y_2.x)), (4, .sc (.int .i64 t4_3))], [(1, ⟨90, false, [.clo (.func 31) [] [], .own 2 2 0 l2_9.length, .sc (.int .i64 a0_b2)]⟩), (2, ⟨92, true, l2_9.flatMap encR91⟩)]⟩) (VC.sub (.c rfl <| .c rfl <| .c rfl <| .n _) (.c rfl <| .c rfl <| .n _)) ?_
    refine AWP.seq ?_
    refine AWP.region (.cons (.assign (lt1 rfl) (.const _ _ _)) <| ARun.nil _ _ _) ?_
    refine AWP.vc (s' := ⟨[(0, .ptr 1 0), (2, .sc (.int .i64 y_2.x)), (4, .sc (.int .i64 t4_3)), (5, .sc (.int .i64 (0 : Int)))], [(1, ⟨90, false, [.clo (.func 31) [] [], .own 2 2 0 l2_9.length, .sc (.int .i64 a0_b2)]⟩), (2, ⟨92, true, l2_9.flatMap encR91⟩)]⟩) (VC.sub (.c rfl <| .c rfl <| .c rfl <| .c rfl <| .n _) (.c rfl <| .c rfl <| .n _)) ?_
    refine AWP.block ?_
    refine AWP.vc (s' := ⟨[(0, .ptr 1 0), (2, .sc (.int .i64 y_2.x)), (4, .sc (.int .i64 t4_3)), (5, .sc (.int .i64 (0 : Int)))], [(1, ⟨90, false, [.clo (.func 31) [] [], .own 2 2 0 l2_9.length, .sc (.int .i64 a0_b2)]⟩), (2, ⟨92, true, l2_9.flatMap encR91⟩)]⟩) (VC.sub (.c rfl <| .c rfl <| .c rfl <| .c rfl <| .n _) (.c rfl <| .c rfl <| .n _)) ?_
    refine AWP.loopM (S := fun x_40 : Int × (List R91) => ⟨[(0, .ptr 1 0), (2, .sc (.int .i64 y_2.x)), (4, .sc (.int .i64 t4_3)), (5, .sc (.int .i64 x_40.1))], [(1, ⟨90, false, [.clo (.func 31) [] [], .own 2 2 0 x_40.2.length, .sc (.int .i64 a0_b2)]⟩), (2, ⟨92, true, x_40.2.flatMap encR91⟩)]⟩) (x := ((0 : Int), l2_9)) (fun nx_41 x_40 h => ?_) h
    unfold m42_L1 at h
    refine AWP.block ?_
    refine AWP.seq ?_
    refine AWP.region (.cons (.move (lt1 rfl) (.tmp rfl)) <| .cons (.assign (lt1 rfl) (.tmp rfl)) <| ARun.nil _ _ _) ?_
    refine AWP.vc (s' := ⟨[(0, .ptr 1 0), (2, .sc (.int .i64 y_2.x)), (4, .sc (.int .i64 t4_3)), (5, .sc (.int .i64 x_40.1)), (6, .sc (.int .i64 x_40.1))], [(1, ⟨90, false, [.clo (.func 31) [] [], .own 2 2 0 x_40.2.length, .sc (.int .i64 a0_b2)]⟩), (2, ⟨92, true, x_40.2.flatMap encR91⟩)]⟩) (VC.sub (.c rfl <| .c rfl <| .c rfl <| .c rfl <| .c rfl <| .n _) (.c rfl <| .c rfl <| .n _)) ?_
    refine AWP.seq ?_
    refine AWP.seq ?_
    obtain ⟨t7_42, ht7_42, h⟩ := letS h
    refine AWP.region (.cons (.move (lt1 rfl) (.tmp rfl)) <| .cons (.mul (lt1 rfl) (.const _ _ _) (.tmp rfl)) <| .cons (.add (lt1 rfl) (.tmp rfl) (.const _ _ _)) <| .cons (.assign (lt1 rfl) (.tmp rfl)) <| ARun.nil _ _ _) ?_
    refine AWP.vc (s' := ⟨[(0, .ptr 1 0), (2, .sc (.int .i64 y_2.x)), (4, .sc (.int .i64 t4_3)), (5, .sc (.int .i64 x_40.1)), (6, .sc (.int .i64 x_40.1)), (7, .sc (.int .i64 t7_42))], [(1, ⟨90, false, [.clo (.func 31) [] [], .own 2 2 0 x_40.2.length, .sc (.int .i64 a0_b2)]⟩), (2, ⟨92, true, x_40.2.flatMap encR91⟩)]⟩) (by subst ht7_42; exact VC.sub (.c rfl <| .c rfl <| .c rfl <| .c rfl <| .c rfl <| .c rfl <| .n _) (.c rfl <| .c rfl <| .n _)) ?_
    refine AWP.seq ?_
    obtain ⟨y_43, hy_43, h⟩ := bindS h
    refine AWP.region (.cons (.move (lt1 rfl) (.tmp rfl)) <| .cons (.move (lt1 rfl) (.tmp rfl)) <| .cons (.lss (lt1 rfl) (.tmp rfl) (.tmp rfl)) <| .cons (.move (lt1 rfl) (.tmp rfl)) <| .guard (j := 3) (dj := 61) rfl (lt1 rfl) rfl (lt1 rfl) (fun hg => .move (lt1 rfl) (.tmp rfl)) <| .guard (j := 3) (dj := 61) rfl (lt1 rfl) rfl (lt1 rfl) (fun hg => .move (lt1 rfl) (.tmp rfl)) <| .guard (j := 3) (dj := 61) rfl (lt1 rfl) rfl (lt1 rfl) (fun hg => .move (lt1 rfl) (.tmp rfl)) <| .guard (j := 3) (dj := 61) rfl (lt1 rfl) rfl (lt1 rfl) (fun hg => .keep (bw := false) (AStep.call (σ := sgT [(1, 1), (2, 2)]) (bw := false) (lt1 rfl) (c43 n x_40.2 a0_b2 t7_42 x_40.1 (gdB hy_43 hg)) (.cons (.gd hg (.tmp rfl)) (.ren rfl) (.cons (.gd hg (.tmp rfl)) (.ren rfl) (.cons (.gd hg (.tmp rfl)) (.ren rfl) (.nil)))) (CallOk.mk' (.c rfl (.c rfl (.n))) rfl)) (CallOk.mk' (.c rfl (.c rfl (.n))) rfl) rfl rfl) <| .cons (.pickAnd (lt1 rfl) (.tmp rfl) (.tmp rfl) (.const _ _ _)) <| ARun.nil _ _ _) ?_
    refine AWP.vc (s' := ⟨[(0, .ptr 1 0), (2, .sc (.int .i64 y_2.x)), (4, .sc (.int .i64 t4_3)), (5, .sc (.int .i64 x_40.1)), (6, .sc (.int .i64 x_40.1)), (7, .sc (.int .i64 t7_42)), (66, .sc (.bool ((decide (t7_42 < t4_3)) && y_43)))], [(1, ⟨90, false, [.clo (.func 31) [] [], .own 2 2 0 x_40.2.length, .sc (.int .i64 a0_b2)]⟩), (2, ⟨92, true, x_40.2.flatMap encR91⟩)]⟩) (VC.sub (.c rfl <| .c rfl <| .c rfl <| .c rfl <| .c rfl <| .c rfl <| .c rfl <| .n _) (.c rfl <| .c rfl <| .n _)) ?_
    refine AWP.join' (S := fun p_44 : Int => ⟨[(0, .ptr 1 0), (2, .sc (.int .i64 y_2.x)), (4, .sc (.int .i64 t4_3)), (5, .sc (.int .i64 x_40.1)), (6, .sc (.int .i64 p_44))], [(1, ⟨90, false, [.clo (.func 31) [] [], .own 2 2 0 x_40.2.length, .sc (.int .i64 a0_b2)]⟩), (2, ⟨92, true, x_40.2.flatMap encR91⟩)]⟩) h (fun p_44 h => ?_) (fun k_45 h => ?_)
    · refine AWP.seq ?_
      refine AWP.seq ?_
      obtain ⟨t8_46, ht8_46, h⟩ := letS h
      refine AWP.region (.cons (.move (lt1 rfl) (.tmp rfl)) <| .cons (.mul (lt1 rfl) (.const _ _ _) (.tmp rfl)) <| .cons (.add (lt1 rfl) (.tmp rfl) (.const _ _ _)) <| .cons (.assign (lt1 rfl) (.tmp rfl)) <| ARun.nil _ _ _) ?_
      refine AWP.vc (s' := ⟨[(0, .ptr 1 0), (2, .sc (.int .i64 y_2.x)), (4, .sc (.int .i64 t4_3)), (5, .sc (.int .i64 x_40.1)), (6, .sc (.int .i64 p_44)), (8, .sc (.int .i64 t8_46))], [(1, ⟨90, false, [.clo (.func 31) [] [], .own 2 2 0 x_40.2.length, .sc (.int .i64 a0_b2)]⟩), (2, ⟨92, true, x_40.2.flatMap encR91⟩)]⟩) (by subst ht8_46; exact VC.sub (.c rfl <| .c rfl <| .c rfl <| .c rfl <| .c rfl <| .c rfl <| .n _) (.c rfl <| .c rfl <| .n _)) ?_
      refine AWP.seq ?_
      obtain ⟨y_47, hy_47, h⟩ := bindS h
      refine AWP.region (.cons (.move (lt1 rfl) (.tmp rfl)) <| .cons (.move (lt1 rfl) (.tmp rfl)) <| .cons (.lss (lt1 rfl) (.tmp rfl) (.tmp rfl)) <| .cons (.move (lt1 rfl) (.tmp rfl)) <| .guard (j := 3) (dj := 74) rfl (lt1 rfl) rfl (lt1 rfl) (fun hg => .move (lt1 rfl) (.tmp rfl)) <| .guard (j := 3) (dj := 74) rfl (lt1 rfl) rfl (lt1 rfl) (fun hg => .move (lt1 rfl) (.tmp rfl)) <| .guard (j := 3) (dj := 74) rfl (lt1 rfl) rfl (lt1 rfl) (fun hg => .move (lt1 rfl) (.tmp rfl)) <| .guard (j := 3) (dj := 74) rfl (lt1 rfl) rfl (lt1 rfl) (fun hg => .keep (bw := false) (AStep.call (σ := sgT [(1, 1), (2, 2)]) (bw := false) (lt1 rfl) (c43 n x_40.2 a0_b2 t8_46 p_44 (gdB hy_47 hg)) (.cons (.gd hg (.tmp rfl)) (.ren rfl) (.cons (.gd hg (.tmp rfl)) (.ren rfl) (.cons (.gd hg (.tmp rfl)) (.ren rfl) (.nil)))) (CallOk.mk' (.c rfl (.c rfl (.n))) rfl)) (CallOk.mk' (.c rfl (.c rfl (.n))) rfl) rfl rfl) <| .cons (.pickAnd (lt1 rfl) (.tmp rfl) (.tmp rfl) (.const _ _ _)) <| ARun.nil _ _ _) ?_
      refine AWP.vc (s' := ⟨[(0, .ptr 1 0), (2, .sc (.int .i64 y_2.x)), (4, .sc (.int .i64 t4_3)), (5, .sc (.int .i64 x_40.1)), (6, .sc (.int .i64 p_44)), (8, .sc (.int .i64 t8_46)), (79, .sc (.bool ((decide (t8_46 < t4_3)) && y_47)))], [(1, ⟨90, false, [.clo (.func 31) [] [], .own 2 2 0 x_40.2.length, .sc (.int .i64 a0_b2)]⟩), (2, ⟨92, true, x_40.2.flatMap encR91⟩)]⟩) (VC.sub (.c rfl <| .c rfl <| .c rfl <| .c rfl <| .c rfl <| .c rfl <| .c rfl <| .n _) (.c rfl <| .c rfl <| .n _)) ?_
      refine AWP.join' (S := fun p_48 : Int => ⟨[(0, .ptr 1 0), (2, .sc (.int .i64 y_2.x)), (4, .sc (.int .i64 t4_3)), (5, .sc (.int .i64 x_40.1)), (6, .sc (.int .i64 p_48))], [(1, ⟨90, false, [.clo (.func 31) [] [], .own 2 2 0 x_40.2.length, .sc (.int .i64 a0_b2)]⟩), (2, ⟨92, true, x_40.2.flatMap encR91⟩)]⟩) h (fun p_48 h => ?_) (fun k_49 h => ?_)
      · refine AWP.seq ?_
        refine AWP.seq ?_
        refine AWP.region (.cons (.move (lt1 rfl) (.tmp rfl)) <| .cons (.move (lt1 rfl) (.tmp rfl)) <| .cons (.eql (lt1 rfl) (.tmp rfl) (.tmp rfl)) <| ARun.nil _ _ _) ?_
        refine AWP.vc (s' := ⟨[(0, .ptr 1 0), (2, .sc (.int .i64 y_2.x)), (4, .sc (.int .i64 t4_3)), (5, .sc (.int .i64 x_40.1)), (6, .sc (.int .i64 p_48)), (83, .sc (.bool (decide (p_48 = x_40.1))))], [(1, ⟨90, false, [.clo (.func 31) [] [], .own 2 2 0 x_40.2.length, .sc (.int .i64 a0_b2)]⟩), (2, ⟨92, true, x_40.2.flatMap encR91⟩)]⟩) (VC.sub (.c rfl <| .c rfl <| .c rfl <| .c rfl <| .c rfl <| .c rfl <| .n _) (.c rfl <| .c rfl <| .n _)) ?_
        refine AWP.cond (.tmp rfl) (fun hc => ?_) (fun hc => ?_)
        · have h := iteT hc h
          refine AWP.seq ?_
          refine AWP.region (.cons (.move (lt1 rfl) (.tmp rfl)) <| .cons (.assign (lt1 rfl) (.tmp rfl)) <| .cons (.assign (lt1 rfl) (.const _ _ _)) <| ARun.nil _ _ _) ?_
          refine AWP.ret ?_
          obtain rfl := Option.some.inj h
          refine retJ (Res.vc (s' := ⟨[(2, .sc (.int .i64 y_2.x)), (3, .sc (.bool true))], [(1, ⟨90, false, [.clo (.func 31) [] [], .own 2 2 0 x_40.2.length, .sc (.int .i64 a0_b2)]⟩), (2, ⟨92, true, x_40.2.flatMap encR91⟩)]⟩) (VC.sub (.c rfl <| .c rfl <| .n _) (.c rfl <| .c rfl <| .n _)) ?_)
          refine Res.sub (H := [(1, ⟨90, false, [.clo (.func 31) [] [], .own 2 2 0 x_40.2.length, .sc (.int .i64 a0_b2)]⟩), (2, ⟨92, true, x_40.2.flatMap encR91⟩)]) (.c rfl <| .c rfl <| .n _) ?_
          exact Res.of rfl (.cons (.tmp rfl) (.cons (.tmp rfl) (.nil))) rfl rfl
        · have h := iteF hc h
          refine AWP.skip ?_
          refine AWP.seq ?_
          obtain ⟨y_50, hy_50, h⟩ := bindS h
          obtain ⟨y_51, hy_51, h⟩ := bindS h
          obtain ⟨y_52, hy_52, h⟩ := bindS h
          obtain ⟨l2_53, hl2_53, h⟩ := bindS h
          obtain ⟨y_54, hy_54, h⟩ := bindS h
          obtain ⟨l2_55, hl2_55, h⟩ := bindS h
          refine AWP.draw (s' := ⟨[(0, .ptr 1 0), (2, .sc (.int .i64 y_2.x)), (4, .sc (.int .i64 t4_3)), (6, .sc (.int .i64 p_48))], [(1, ⟨90, false, [.clo (.func 31) [] [], .own 2 2 0 l2_55.length, .sc (.int .i64 a0_b2)]⟩), (2, ⟨92, true, l2_55.flatMap encR91⟩)]⟩) mixed [⟨0, .ptr 1 0, none, []⟩, ⟨2, .sc (.int .i64 y_2.x), none, []⟩, ⟨4, .sc (.int .i64 t4_3), none, []⟩, ⟨5, .sc (.int .i64 x_40.1), none, []⟩, ⟨6, .sc (.int .i64 p_48), none, []⟩, ⟨83, .sc (.bool (decide (p_48 = x_40.1))), none, []⟩, ⟨85, .ptr 1 0, some 0, []⟩, ⟨86, .ptr 1 0, some 1, []⟩, ⟨87, .ptr 1 (0 + 1), some 2, []⟩, ⟨88, .own 2 2 0 x_40.2.length, some 3, []⟩, ⟨89, .sc (.int .i64 x_40.1), some 4, []⟩, ⟨90, .ptr 1 0, some 5, []⟩, ⟨91, .ptr 1 0, some 6, []⟩, ⟨92, .ptr 1 (0 + 1), some 7, []⟩, ⟨93, .own 2 2 0 x_40.2.length, some 8, []⟩, ⟨94, .sc (.int .i64 p_48), some 9, []⟩, ⟨95, .ptr 1 0, some 10, []⟩, ⟨96, .ptr 1 0, some 11, []⟩, ⟨97, .ptr 1 (0 + 1), some 12, []⟩, ⟨98, .own 2 2 0 x_40.2.length, some 13, []⟩, ⟨99, .sc (.int .i64 p_48), some 14, []⟩, ⟨100, .ptr 2 (0 + (p_48).toNat * 2), some 15, []⟩, ⟨101, .agg [.sc (.int .i64 y_50.x), .sc (.int .i64 y_50.number)], some 16, []⟩, ⟨102, .ptr 1 0, some 17, []⟩, ⟨103, .ptr 1 0, some 18, []⟩, ⟨104, .ptr 1 (0 + 1), some 19, []⟩, ⟨105, .own 2 2 0 x_40.2.length, some 20, []⟩, ⟨106, .sc (.int .i64 x_40.1), some 21, []⟩, ⟨107, .ptr 2 (0 + (x_40.1).toNat * 2), some 22, []⟩, ⟨108, .agg [.sc (.int .i64 y_51.x), .sc (.int .i64 y_51.number)], some 23, []⟩, ⟨109, .ptr 2 (0 + (x_40.1).toNat * 2), some 24, []⟩, ⟨110, .ptr 2 (0 + (p_48).toNat * 2), some 26, []⟩] [⟨[0], 0, 0, some (85, .ptr 1 0), []⟩, ⟨[6], 0, 0, some (86, .ptr 1 0), []⟩, ⟨[7], 0, 0, some (87, .ptr 1 (0 + 1)), []⟩, ⟨[8], 0, 0, some (88, .own 2 2 0 x_40.2.length), []⟩, ⟨[3], 0, 2, some (89, .sc (.int .i64 x_40.1)), []⟩, ⟨[0], 0, 0, some (90, .ptr 1 0), []⟩, ⟨[11], 0, 0, some (91, .ptr 1 0), []⟩, ⟨[12], 0, 0, some (92, .ptr 1 (0 + 1)), []⟩, ⟨[13], 0, 0, some (93, .own 2 2 0 x_40.2.length), []⟩, ⟨[4], 0, 2, some (94, .sc (.int .i64 p_48)), []⟩, ⟨[0], 0, 0, some (95, .ptr 1 0), []⟩, ⟨[16], 0, 0, some (96, .ptr 1 0), []⟩, ⟨[17], 0, 0, some (97, .ptr 1 (0 + 1)), []⟩, ⟨[18], 0, 0, some (98, .own 2 2 0 x_40.2.length), []⟩, ⟨[4], 0, 2, some (99, .sc (.int .i64 p_48)), []⟩, ⟨[19, 20], 0, 0, some (100, .ptr 2 (0 + (p_48).toNat * 2)), []⟩, ⟨[21], 0, 0, some (101, .agg [.sc (.int .i64 y_50.x), .sc (.int .i64 y_50.number)]), []⟩, ⟨[0], 0, 0, some (102, .ptr 1 0), []⟩, ⟨[23], 0, 0, some (103, .ptr 1 0), []⟩, ⟨[24], 0, 0, some (104, .ptr 1 (0 + 1)), []⟩, ⟨[25], 0, 0, some (105, .own 2 2 0 x_40.2.length), []⟩, ⟨[3], 0, 2, some (106, .sc (.int .i64 x_40.1)), []⟩, ⟨[26, 27], 0, 0, some (107, .ptr 2 (0 + (x_40.1).toNat * 2)), []⟩, ⟨[28], 0, 0, some (108, .agg [.sc (.int .i64 y_51.x), .sc (.int .i64 y_51.number)]), []⟩, ⟨[9, 10], 0, 0, some (109, .ptr 2 (0 + (x_40.1).toNat * 2)), []⟩, ⟨[30, 22], 0, 0, none, []⟩, ⟨[14, 15], 1, 1, some (110, .ptr 2 (0 + (p_48).toNat * 2)), []⟩, ⟨[31, 29], 1, 1, none, []⟩] [25, 27] [[(1, ⟨90, false, [.clo (.func 31) [] [], .own 2 2 0 x_40.2.length, .sc (.int .i64 a0_b2)]⟩), (2, ⟨92, true, x_40.2.flatMap encR91⟩)], [(1, ⟨90, false, [.clo (.func 31) [] [], .own 2 2 0 l2_53.length, .sc (.int .i64 a0_b2)]⟩), (2, ⟨92, true, l2_53.flatMap encR91⟩)], [(1, ⟨90, false, [.clo (.func 31) [] [], .own 2 2 0 l2_55.length, .sc (.int .i64 a0_b2)]⟩), (2, ⟨92, true, l2_55.flatMap encR91⟩)]] [[], [0], [0, 1], [0, 1, 2], [], [], [5], [5, 6], [5, 6, 7], [], [], [10], [10, 11], [10, 11, 12], [], [10, 11, 12, 13, 14], [10, 11, 12, 13, 14, 15], [], [17], [17, 18], [17, 18, 19], [], [17, 18, 19, 20, 21], [17, 18, 19, 20, 21, 22], [0, 1, 2, 3, 4, 5, 6, 7, 8, 10, 11, 12, 13, 14, 15, 16, 17, 18, 19, 20, 21, 22, 23], [0, 1, 2, 3, 4, 5, 6, 7, 8, 10, 11, 12, 13, 14, 15, 16, 17, 18, 19, 20, 21, 22, 23, 24], [0, 1, 2, 3, 4, 5, 6, 7, 8, 9, 10, 11, 12, 13, 14, 15, 16, 17, 18, 19, 20, 21, 22, 23, 24, 25], [0, 1, 2, 3, 4, 5, 6, 7, 8, 9, 10, 11, 12, 13, 14, 15, 16, 17, 18, 19, 20, 21, 22, 23, 24, 25, 26]] (by kernel_rfl) (by kernel_rfl) (BornL.ok (.o <| .o <| .o <| .o <| .o <| .o <| .b rfl rfl <| .b rfl rfl <| .b rfl rfl <| .b rfl rfl <| .b rfl rfl <| .b rfl rfl <| .b rfl rfl <| .b rfl rfl <| .b rfl rfl <| .b rfl rfl <| .b rfl rfl <| .b rfl rfl <| .b rfl rfl <| .b rfl rfl <| .b rfl rfl <| .b rfl rfl <| .b rfl rfl <| .b rfl rfl <| .b rfl rfl <| .b rfl rfl <| .b rfl rfl <| .b rfl rfl <| .b rfl rfl <| .b rfl rfl <| .b rfl rfl <| .b rfl rfl <| .n)) (BaseL.ok (.o rfl <| .o rfl <| .o rfl <| .o rfl <| .o rfl <| .o rfl <| .b <| .b <| .b <| .b <| .b <| .b <| .b <| .b <| .b <| .b <| .b <| .b <| .b <| .b <| .b <| .b <| .b <| .b <| .b <| .b <| .b <| .b <| .b <| .b <| .b <| .b <| .n)) rfl (by decide) (allLt rfl) (.read rfl (.c (.put (fun E hE => .move (lt1 rfl) (.tmp (hE.at (k := 0) rfl)))) (.n)) <| .read rfl (.c (.put (fun E hE => .nilCheck (lt1 rfl) (.tmp (hE.at (k := 0) rfl)) trivial)) (.n)) <| .read rfl (.c (.put (fun E hE => .fieldP (lt1 rfl) (.tmp (hE.at (k := 0) rfl)) fld90_1)) (.n)) <| .read rfl (.c (.put (fun E hE => .loadP (lt1 rfl) (.tmp (hE.at (k := 0) rfl)) one88 rfl rfl rfl)) (.n)) <| .pure rfl (fun H => .put (fun E hE => .move (lt1 rfl) (.tmp (hE.at (k := 0) rfl)))) <| .read rfl (.c (.put (fun E hE => .move (lt1 rfl) (.tmp (hE.at (k := 0) rfl)))) (.n)) <| .read rfl (.c (.put (fun E hE => .nilCheck (lt1 rfl) (.tmp (hE.at (k := 0) rfl)) trivial)) (.n)) <| .read rfl (.c (.put (fun E hE => .fieldP (lt1 rfl) (.tmp (hE.at (k := 0) rfl)) fld90_1)) (.n)) <| .read rfl (.c (.put (fun E hE => .loadP (lt1 rfl) (.tmp (hE.at (k := 0) rfl)) one88 rfl rfl rfl)) (.n)) <| .pure rfl (fun H => .put (fun E hE => .move (lt1 rfl) (.tmp (hE.at (k := 0) rfl)))) <| .read rfl (.c (.put (fun E hE => .move (lt1 rfl) (.tmp (hE.at (k := 0) rfl)))) (.n)) <| .read rfl (.c (.put (fun E hE => .nilCheck (lt1 rfl) (.tmp (hE.at (k := 0) rfl)) trivial)) (.n)) <| .read rfl (.c (.put (fun E hE => .fieldP (lt1 rfl) (.tmp (hE.at (k := 0) rfl)) fld90_1)) (.n)) <| .read rfl (.c (.put (fun E hE => .loadP (lt1 rfl) (.tmp (hE.at (k := 0) rfl)) one88 rfl rfl rfl)) (.n)) <| .pure rfl (fun H => .put (fun E hE => .move (lt1 rfl) (.tmp (hE.at (k := 0) rfl)))) <| .read rfl (.c (.put (fun E hE => .idxOwn (lt1 rfl) (.tmp (hE.at (k := 0) rfl)) (.tmp (hE.at (k := 1) rfl)) Try.underlying88 sz92 rfl hy_50)) (.n)) <| .read rfl (.c (.put (fun E hE => .loadPA (lt1 rfl) (.tmp (hE.at (k := 0) rfl)) agg92 rfl (cells_at encR91_len hy_50) rfl rfl)) (.n)) <| .read rfl (.c (.put (fun E hE => .move (lt1 rfl) (.tmp (hE.at (k := 0) rfl)))) (.n)) <| .read rfl (.c (.put (fun E hE => .nilCheck (lt1 rfl) (.tmp (hE.at (k := 0) rfl)) trivial)) (.n)) <| .read rfl (.c (.put (fun E hE => .fieldP (lt1 rfl) (.tmp (hE.at (k := 0) rfl)) fld90_1)) (.n)) <| .read rfl (.c (.put (fun E hE => .loadP (lt1 rfl) (.tmp (hE.at (k := 0) rfl)) one88 rfl rfl rfl)) (.n)) <| .pure rfl (fun H => .put (fun E hE => .move (lt1 rfl) (.tmp (hE.at (k := 0) rfl)))) <| .read rfl (.c (.put (fun E hE => .idxOwn (lt1 rfl) (.tmp (hE.at (k := 0) rfl)) (.tmp (hE.at (k := 1) rfl)) Try.underlying88 sz92 rfl hy_51)) (.n)) <| .read rfl (.c (.put (fun E hE => .loadPA (lt1 rfl) (.tmp (hE.at (k := 0) rfl)) agg92 rfl (cells_at encR91_len hy_51) rfl rfl)) (.n)) <| .read rfl (.c (.put (fun E hE => .idxOwn (lt1 rfl) (.tmp (hE.at (k := 0) rfl)) (.tmp (hE.at (k := 1) rfl)) Try.underlying88 sz92 rfl hy_52)) (.n)) <| .turn rfl rfl rfl rfl rfl (.store (fun E hE => .storePA (.tmp (hE.at (k := 0) rfl)) (.tmp (hE.at (k := 1) rfl)) sz92 rfl rfl (le_at encR91_len hy_52) (one_lit rfl) (fun _ => still_lit rfl) (splL_at encR91_len hy_52 hl2_53)) (congrArg (fun n_ : Nat => ([(1, ⟨90, false, [.clo (.func 31) [] [], .own 2 2 0 n_, .sc (.int .i64 a0_b2)]⟩), (2, ⟨92, true, l2_53.flatMap encR91⟩)] : List (Nat × Blk))) (setLen hl2_53))) <| .read rfl (.c (.put (fun E hE => .idxOwn (lt1 rfl) (.ownN (Eq.symm (setLen hl2_53)) (.tmp (hE.at (k := 0) rfl))) (.tmp (hE.at (k := 1) rfl)) Try.underlying88 sz92 rfl hy_54)) (.n)) <| .turn rfl rfl rfl rfl rfl (.store (fun E hE => .storePA (.tmp (hE.at (k := 0) rfl)) (.tmp (hE.at (k := 1) rfl)) sz92 rfl rfl (le_at encR91_len hy_54) (one_lit rfl) (fun _ => still_lit rfl) (splL_at encR91_len hy_54 hl2_55)) (congrArg (fun n_ : Nat => ([(1, ⟨90, false, [.clo (.func 31) [] [], .own 2 2 0 n_, .sc (.int .i64 a0_b2)]⟩), (2, ⟨92, true, l2_55.flatMap encR91⟩)] : List (Nat × Blk))) (setLen hl2_55))) <| .nil _) (fun E hE => .c (DInv.at hE (k := 0) rfl rfl rfl) <| .c (DInv.at hE (k := 1) rfl rfl rfl) <| .c (DInv.at hE (k := 2) rfl rfl rfl) <| .c (DInv.at hE (k := 4) rfl rfl rfl) <| .n _) rfl ?_
          refine AWP.vc (s' := ⟨[(0, .ptr 1 0), (2, .sc (.int .i64 y_2.x)), (4, .sc (.int .i64 t4_3)), (6, .sc (.int .i64 p_48))], [(1, ⟨90, false, [.clo (.func 31) [] [], .own 2 2 0 l2_55.length, .sc (.int .i64 a0_b2)]⟩), (2, ⟨92, true, l2_55.flatMap encR91⟩)]⟩) (VC.sub (.c rfl <| .c rfl <| .c rfl <| .c rfl <| .n _) (.c rfl <| .c rfl <| .n _)) ?_
          refine AWP.region (.cons (.move (lt1 rfl) (.tmp rfl)) <| .cons (.assign (lt1 rfl) (.tmp rfl)) <| ARun.nil _ _ _) ?_
          exact endJ (p_48, l2_55) h (VC.sub (.c rfl <| .c rfl <| .c rfl <| .c rfl <| .n _) (.c rfl <| .c rfl <| .n _))
      · refine AWP.cond (.tmp rfl) (fun hc => ?_) (fun hc => ?_)
        · have h := iteT hc h
          refine AWP.region (.cons (.move (lt1 rfl) (.tmp rfl)) <| .cons (.assign (lt1 rfl) (.tmp rfl)) <| ARun.nil _ _ _) ?_
          exact endJ t8_46 h (VC.sub (.c rfl <| .c rfl <| .c rfl <| .c rfl <| .c rfl <| .n _) (.c rfl <| .c rfl <| .n _))
        · have h := iteF hc h
          refine AWP.skip ?_
          exact endJ p_44 h (VC.sub (.c rfl <| .c rfl <| .c rfl <| .c rfl <| .c rfl <| .n _) (.c rfl <| .c rfl <| .n _))
    · refine AWP.cond (.tmp rfl) (fun hc => ?_) (fun hc => ?_)
      · have h := iteT hc h
        refine AWP.region (.cons (.move (lt1 rfl) (.tmp rfl)) <| .cons (.assign (lt1 rfl) (.tmp rfl)) <| ARun.nil _ _ _) ?_
        exact endJ t7_42 h (VC.sub (.c rfl <| .c rfl <| .c rfl <| .c rfl <| .c rfl <| .n _) (.c rfl <| .c rfl <| .n _))
      · have h := iteF hc h
        refine AWP.skip ?_
        exact endJ x_40.1 h (VC.sub (.c rfl <| .c rfl <| .c rfl <| .c rfl <| .c rfl <| .n _) (.c rfl <| .c rfl <| .n _))
theorem i40 (n : Nat) (a1_b0_b1_b : (List R91)) (a1_b0_b2 : Int) {r : (List Int)} (h : m40 n a1_b0_b1_b a1_b0_b2 = some r) : ItSpec Try.prog 40 [.ptr 1 0] [(1, ⟨79, false, [.ptr 2 0]⟩), (2, ⟨90, false, [.clo (.func 31) [] [], .own 3 2 0 a1_b0_b1_b.length, .sc (.int .i64 a1_b0_b2)]⟩), (3, ⟨92, true, a1_b0_b1_b.flatMap encR91⟩)] (fun e_ : Int => [.sc (.int .i64 e_)]) r := by
  refine ItSpec.of (fn := Try.f40) Try.func40 Try.ntmps40 rfl rfl (le1 rfl) (fun tm w => ⟨_, results_none rfl tm _ w⟩) (fun l ι0 Zs Zb J Jx hJ hJx hR => ?_)
  unfold m40 at h
  refine AWPF.seq ?_
  obtain ⟨y_1, hy_1, h⟩ := bindS h
  refine AWPF.of fun d_ => AWP.region (.cons (.loadP (lt1 rfl) (.tmp rfl) one79 rfl rfl rfl) <| .cons (.call (σ := sgT [(1, 2), (2, 3), (4, 4), (3, 5)]) (bw := false) (lt1 rfl) (c41 n a1_b0_b1_b a1_b0_b2 hy_1) (.cons (.tmp rfl) (.ren rfl) (.nil)) (CallOk.mk' (.c rfl (.c rfl (.n))) rfl)) <| .cons (.assign (lt1 rfl) (.tmp rfl)) <| ARun.nil _ _ _) ?_
  refine AWPF.vc (s' := ⟨[(0, .sc (.func (.yield l) #[] #[])), (3, .ptr 4 0)], [(2, ⟨90, false, [.clo (.func 31) [] [], .own 3 2 0 a1_b0_b1_b.length, .sc (.int .i64 a1_b0_b2)]⟩), (3, ⟨92, true, a1_b0_b1_b.flatMap encR91⟩), (5, ⟨92, true, y_1.l.flatMap encR91⟩), (4, ⟨90, false, [.clo (.func 31) [] [], .own 5 2 0 y_1.l.length, .sc (.int .i64 y_1.pushed)]⟩), (1, ⟨79, false, [.ptr 2 0]⟩)]⟩) (fun d_ => VC.sub (.c rfl <| .c rfl <| .n _) (.c rfl <| .c rfl <| .c rfl <| .c rfl <| .c rfl <| .n _)) ?_
  refine AWPF.seq ?_
  obtain ⟨y_2, hy_2, h⟩ := bindS h
  refine AWPF.of fun d_ => AWP.region (.cons (.move (lt1 rfl) (.tmp rfl)) <| .cons (.call (σ := sgT [(1, 4), (2, 5)]) (bw := false) (lt1 rfl) (c42 n y_1.l y_1.pushed hy_2) (.cons (.tmp rfl) (.ren rfl) (.nil)) (CallOk.mk' (.c rfl (.c rfl (.n))) rfl)) <| .cons (.move (lt1 rfl) (.tmp rfl)) <| .cons (.extract (lt1 rfl) (.tmp rfl) rfl) <| .cons (.extract (lt1 rfl) (.tmp rfl) rfl) <| .cons (.assign (lt1 rfl) (.tmp rfl)) <| .cons (.assign (lt1 rfl) (.tmp rfl)) <| ARun.nil _ _ _) ?_
  refine AWPF.vc (s' := ⟨[(0, .sc (.func (.yield l) #[] #[])), (3, .ptr 4 0), (4, .sc (.int .i64 y_2.1)), (5, .sc (.bool y_2.2.1))], [(4, ⟨90, false, [.clo (.func 31) [] [], .own 5 2 0 y_2.2.2.2.length, .sc (.int .i64 y_2.2.2.1)]⟩), (5, ⟨92, true, y_2.2.2.2.flatMap encR91⟩), (2, ⟨90, false, [.clo (.func 31) [] [], .own 3 2 0 a1_b0_b1_b.length, .sc (.int .i64 a1_b0_b2)]⟩), (3, ⟨92, true, a1_b0_b1_b.flatMap encR91⟩), (1, ⟨79, false, [.ptr 2 0]⟩)]⟩) (fun d_ => VC.sub (.c rfl <| .c rfl <| .c rfl <| .c rfl <| .n _) (.c rfl <| .c rfl <| .c rfl <| .c rfl <| .c rfl <| .n _)) ?_
  refine AWPF.joinB' (S := fun p_19 : Unit => ⟨[], [(1, ⟨79, false, [.ptr 2 0]⟩), (2, ⟨90, false, [.clo (.func 31) [] [], .own 3 2 0 a1_b0_b1_b.length, .sc (.int .i64 a1_b0_b2)]⟩), (3, ⟨92, true, a1_b0_b1_b.flatMap encR91⟩)]⟩) h (fun p_19 r h => ?_) (fun k_20 h => ?_)
  · obtain rfl := Option.some.inj h
    exact ⟨.inr rfl, .inl rfl⟩
  · refine AWPF.vc (s' := ⟨[(0, .sc (.func (.yield l) #[] #[])), (3, .ptr 4 0), (4, .sc (.int .i64 y_2.1)), (5, .sc (.bool y_2.2.1))], [(1, ⟨79, false, [.ptr 2 0]⟩), (2, ⟨90, false, [.clo (.func 31) [] [], .own 3 2 0 a1_b0_b1_b.length, .sc (.int .i64 a1_b0_b2)]⟩), (3, ⟨92, true, a1_b0_b1_b.flatMap encR91⟩), (4, ⟨90, false, [.clo (.func 31) [] [], .own 5 2 0 y_2.2.2.2.length, .sc (.int .i64 y_2.2.2.1)]⟩), (5, ⟨92, true, y_2.2.2.2.flatMap encR91⟩)]⟩) (fun d_ => VC.sub (.c rfl <| .c rfl <| .c rfl <| .c rfl <| .n _) (.c rfl <| .c rfl <| .c rfl <| .c rfl <| .c rfl <| .n _)) ?_
    refine AWPF.loopM (S := fun x_13 : Int × Bool × Int × (List R91) => ⟨[(0, .sc (.func (.yield l) #[] #[])), (3, .ptr 4 0), (4, .sc (.int .i64 x_13.1)), (5, .sc (.bool x_13.2.1))], [(1, ⟨79, false, [.ptr 2 0]⟩), (2, ⟨90, false, [.clo (.func 31) [] [], .own 3 2 0 a1_b0_b1_b.length, .sc (.int .i64 a1_b0_b2)]⟩), (3, ⟨92, true, a1_b0_b1_b.flatMap encR91⟩), (4, ⟨90, false, [.clo (.func 31) [] [], .own 5 2 0 x_13.2.2.2.length, .sc (.int .i64 x_13.2.2.1)]⟩), (5, ⟨92, true, x_13.2.2.2.flatMap encR91⟩)]⟩) (x := (y_2.1, y_2.2.1, y_2.2.2.1, y_2.2.2.2)) (fun nx_14 x_13 r h => ?_) h
    unfold m40_L1 at h
    refine AWPF.seq ?_
    refine AWPF.seq ?_
    refine AWPF.of fun d_ => AWP.region (.cons (.move (lt1 rfl) (.tmp rfl)) <| ARun.nil _ _ _) ?_
    refine AWPF.vc (s' := ⟨[(0, .sc (.func (.yield l) #[] #[])), (3, .ptr 4 0), (4, .sc (.int .i64 x_13.1)), (13, .sc (.bool x_13.2.1))], [(1, ⟨79, false, [.ptr 2 0]⟩), (2, ⟨90, false, [.clo (.func 31) [] [], .own 3 2 0 a1_b0_b1_b.length, .sc (.int .i64 a1_b0_b2)]⟩), (3, ⟨92, true, a1_b0_b1_b.flatMap encR91⟩), (4, ⟨90, false, [.clo (.func 31) [] [], .own 5 2 0 x_13.2.2.2.length, .sc (.int .i64 x_13.2.2.1)]⟩), (5, ⟨92, true, x_13.2.2.2.flatMap encR91⟩)]⟩) (fun d_ => VC.sub (.c rfl <| .c rfl <| .c rfl <| .c rfl <| .n _) (.c rfl <| .c rfl <| .c rfl <| .c rfl <| .c rfl <| .n _)) ?_
    refine AWPF.cond (fun d_ => .tmp rfl) (fun hc => ?_) (fun hc => ?_)
    · have h := iteT hc h
      refine AWPF.skip ?_
      refine AWPF.seq ?_
      refine AWPF.block ?_
      refine AWPF.seq ?_
      obtain ⟨rest_16, hy_15⟩ := yldS h
      refine AWPF.regionY (.cons (fun d_ => .move (lt1 rfl) (.tmp rfl)) <| .cons (fun d_ => .move (lt1 rfl) (.tmp rfl)) <| .y0 hJ hJx hR hy_15 (lt1 rfl) (fun d_ => .tmp rfl) (fun d_ => .cons (.tmp rfl) rfl (.nil)) (fun b_17 d_ =>  .cons (.not (lt1 rfl) (.tmp rfl)) <| ARun.nil _ _ _)) (fun b_17 => ?_)
      refine AWPF.vc (s' := ⟨[(0, .sc (.func (.yield l) #[] #[])), (3, .ptr 4 0), (22, .sc (.bool (!b_17)))], [(1, ⟨79, false, [.ptr 2 0]⟩), (2, ⟨90, false, [.clo (.func 31) [] [], .own 3 2 0 a1_b0_b1_b.length, .sc (.int .i64 a1_b0_b2)]⟩), (3, ⟨92, true, a1_b0_b1_b.flatMap encR91⟩), (4, ⟨90, false, [.clo (.func 31) [] [], .own 5 2 0 x_13.2.2.2.length, .sc (.int .i64 x_13.2.2.1)]⟩), (5, ⟨92, true, x_13.2.2.2.flatMap encR91⟩)]⟩) (fun d_ => VC.sub (.c rfl <| .c rfl <| .c rfl <| .n _) (.c rfl <| .c rfl <| .c rfl <| .c rfl <| .c rfl <| .n _)) ?_
      refine AWPF.condY hy_15 (fun d_ => .tmp rfl) (fun g_ hg_ => ?_) (fun h => ?_)
      · refine AWPF.ret ?_
        exact ⟨.inl rfl, hg_⟩
      · refine AWPF.skip ?_
        obtain ⟨y_18, hy_18, h⟩ := bindS h
        refine AWPF.of fun d_ => AWP.region (.cons (.move (lt1 rfl) (.tmp rfl)) <| .cons (.call (σ := sgT [(1, 4), (2, 5)]) (bw := false) (lt1 rfl) (c42 n x_13.2.2.2 x_13.2.2.1 hy_18) (.cons (.tmp rfl) (.ren rfl) (.nil)) (CallOk.mk' (.c rfl (.c rfl (.n))) rfl)) <| .cons (.move (lt1 rfl) (.tmp rfl)) <| .cons (.extract (lt1 rfl) (.tmp rfl) rfl) <| .cons (.extract (lt1 rfl) (.tmp rfl) rfl) <| .cons (.assign (lt1 rfl) (.tmp rfl)) <| .cons (.assign (lt1 rfl) (.tmp rfl)) <| ARun.nil _ _ _) ?_
        exact endJF (y_18.1, y_18.2.1, y_18.2.2.1, y_18.2.2.2) h (fun d_ => VC.sub (.c rfl <| .c rfl <| .c rfl <| .c rfl <| .n _) (.c rfl <| .c rfl <| .c rfl <| .c rfl <| .c rfl <| .n _))
    · have h := iteF hc h
      refine AWPF.exit ?_
      exact endJF () h (fun d_ => VC.sub (.n _) (.c rfl <| .c rfl <| .c rfl <| .n _))
theorem c30 {β1 : Bool} (n : Nat) (a1 : (List Int)) {r : (List Int)} (h : m30 n a1 = some r) : Spec Try.prog 30 [] [.clo (.func 31) [] [], .rd β1 a1.length (a1.flatMap (encI .i64))] [] (.rd false r.length (r.flatMap (encI .i64))) [] := by
  refine Spec.ofR (fun r : (List Int) => .rd false r.length (r.flatMap (encI .i64))) (fun r : (List Int) => []) (rr := r) (fn := Try.f30) Try.func30 Try.ntmps30 rfl rfl (le1 rfl) (fun w0 Zs Zb T0 ι0 => ?_)
  unfold m30 at h
  refine AWPF.seq ?_
  refine AWPF.of fun d_ => AWP.region (.cons (.assign (lt1 rfl) (.const _ _ _)) <| ARun.nil _ _ _) ?_
  refine AWPF.vc (s' := ⟨[(0, .clo (.func 31) [] []), (1, .rd β1 a1.length (a1.flatMap (encI .i64)))], []⟩) (fun d_ => VC.sub (.c rfl <| .c rfl <| .n _) (.n _)) ?_
  refine AWPF.seq ?_
  refine AWPF.of fun d_ => AWP.region (.cons (.alloc (t := 1) (k := ⟨62, false, [.sc (.slice none 0 0)]⟩) (lt1 rfl) (nm rfl) zero62 rfl rfl) <| ARun.nil _ _ _) ?_
  refine AWPF.vc (s' := ⟨[(0, .clo (.func 31) [] []), (1, .rd β1 a1.length (a1.flatMap (encI .i64))), (5, .ptr 1 0)], [(1, ⟨62, false, [.sc (.slice none 0 0)]⟩)]⟩) (fun d_ => VC.sub (.c rfl <| .c rfl <| .c rfl <| .n _) (.c rfl <| .n _)) ?_
  refine AWPF.seq ?_
  refine AWPF.seq ?_
  obtain ⟨y_1, hy_1, h⟩ := bindS h
  obtain ⟨y_2, hy_2, h⟩ := bindS h
  refine AWPF.of fun d_ => AWP.region (.cons (.move (lt1 rfl) (.tmp rfl)) <| .cons (.move (lt1 rfl) (.tmp rfl)) <| .cons (.call (σ := sgT [(1, 2), (2, 3)]) (bw := false) (lt1 rfl) (c36 (β1 := β1) n a1 hy_1) (.cons (.tmp rfl) (.ren rfl) (.cons (.tmp rfl) (.ren rfl) (.nil))) (CallOk.mk' (.n) rfl)) <| .cons (.call (σ := sgT [(1, 2), (2, 3), (3, 4)]) (bw := false) (lt1 rfl) (c37 n y_1.l y_1.pushed hy_2) (.cons (.tmp rfl) (.ren rfl) (.nil)) (CallOk.mk' (.c rfl (.c rfl (.n))) rfl)) <| ARun.nil _ _ _) ?_
  refine AWPF.vc (s' := ⟨[(5, .ptr 1 0), (10, .clo (.func 40) [] [.ptr 4 0])], [(2, ⟨90, false, [.clo (.func 31) [] [], .own 3 2 0 y_1.l.length, .sc (.int .i64 y_1.pushed)]⟩), (3, ⟨92, true, y_1.l.flatMap encR91⟩), (4, ⟨79, false, [.ptr 2 0]⟩), (1, ⟨62, false, [.sc (.slice none 0 0)]⟩)]⟩) (fun d_ => VC.sub (.c rfl <| .c rfl <| .n _) (.c rfl <| .c rfl <| .c rfl <| .c rfl <| .n _)) ?_
  refine AWPF.block ?_
  refine AWPF.vc (fun d_ => VC.trans (VC.newTag (t := 5) (E := 3) (nm rfl)) (VC.cell (t := 1) (i := 0) (v' := .own 5 1 0 0) rfl rfl rfl (fun _ _ _ _ h => nil_own h))) ?_
  obtain ⟨y_3, hy_3, h⟩ := bindS h
  refine AWPF.rangeG (σ := sgT [(1, 4), (2, 2), (3, 3)]) (Hp := fun x_9 : (List Int) => [(1, ⟨62, false, [.own 5 1 0 x_9.length]⟩), (5, ⟨3, true, x_9.flatMap (encI .i64)⟩)]) (Hb := fun (e_4 : Int) (x_9 : (List Int)) => [(1, ⟨62, false, [.own 5 1 0 x_9.length]⟩), (5, ⟨3, true, x_9.flatMap (encI .i64)⟩)]) (env := [(5, .ptr 1 0)]) (x0 := ([] : List Int)) (KB := [1]) (envb := fun (e_4 : Int) (x_9 : (List Int)) => [(5, .ptr 1 0), (6, .sc (.int .i64 e_4))]) (M := fun _ _ => False) (i40 n y_1.l y_1.pushed hy_3) (fun d_ => .tmp rfl) (fun d_ => .cons (.ren rfl) (.nil)) (.c rfl (.c rfl (.c rfl (.n)))) rfl (.c rfl <| .c rfl <| .n _) (.c rfl <| .n _) rfl h (fun l => ⟨by decide, fun _ => rfl, ?_, ?_⟩) (fun p_12 h => ?_) (fun _ _ h => h.elim)
  · intro w0 Zs Zb T0 ι0 x_9 e_4
    refine AWP.vc (s' := ⟨[(5, .ptr 1 0), (11, .sc (.int .i64 e_4))], [(1, ⟨62, false, [.own 5 1 0 x_9.length]⟩), (5, ⟨3, true, x_9.flatMap (encI .i64)⟩)]⟩) (VC.sub (.c rfl <| .c rfl <| .n _) (.c rfl <| .c rfl <| .n _)) ?_
    refine AWP.region (.cons (.assign (lt1 rfl) (.tmp rfl)) <| ARun.nil _ _ _) ?_
    exact ⟨rfl, VC.sub (.c rfl <| .c rfl <| .n _) (.c rfl <| .c rfl <| .n _)⟩
  · intro w0 Zs Zb T0 ι0 nx_10 x_9 e_4 h
    unfold m30_R1 at h
    refine AWP.block ?_
    obtain ⟨l5_11, hl5_11, h⟩ := bindS h
    refine AWP.region (.cons (.loadP (lt1 rfl) (.tmp rfl) one62 rfl rfl rfl) <| .cons (.move (lt1 rfl) (.tmp rfl)) <| .cons (.buildSlice (t := 6) (out := ([e_4] : List Int).flatMap (encI .i64)) (lt1 rfl) (nm rfl) (.cons (.tmp rfl) (by first | exact ⟨rfl, rfl⟩ | rfl) (.nil)) Try.underlying62 zero3 el3 (by decide) (by decide) rfl (still_all (encI_still .i64) _)) <| .cons (.app (enc := (encI .i64)) (lt1 rfl) (nm rfl) (.tmp rfl) (Src.own (.tmp rfl) rfl (lendAll (encI_len .i64) _) (flatMap_length (encI_len .i64) _) (one_all (encI_one .i64) _) (.inl rfl)) Try.underlying62 ⟨_, Try.underlying62, by intro k hk; cases hk⟩ el3 rfl (encI_len .i64) rfl rfl (by decide) hl5_11) <| .cons (.storeP (.tmp rfl) (.tmp rfl) sz62 rfl (lt1 rfl) rfl (by intro h; cases h) rfl) <| ARun.nil _ _ _) ?_
    exact ⟨l5_11, VC.sub (.n _) (.c rfl <| .c rfl <| .n _), .inl ⟨rfl, h⟩⟩
  · refine AWPF.seq ?_
    refine AWPF.of fun d_ => AWP.region (.cons (.loadP (lt1 rfl) (.tmp rfl) one62 rfl rfl rfl) <| .cons (.assign (lt1 rfl) (.tmp rfl)) <| ARun.nil _ _ _) ?_
    refine AWPF.ret ?_
    obtain rfl := Option.some.inj h
    refine ⟨.inl rfl, _, rfl, fun w0 Zs Zb T0 ι0 => (Res.vc (s' := ⟨[(4, .rd false p_12.length (p_12.flatMap (encI .i64)))], []⟩) (VC.trans (VC.frz (d := 4) (t := 5) rfl rfl (encI_len .i64)) (VC.sub (.c rfl <| .n _) (.n _))) ?_)⟩
    refine Res.drop (H := []) rfl ?_
    exact Res.of rfl (.cons (.tmp rfl) (.nil)) rfl rfl
theorem c18 (n : Nat) {r : R66} (h : m18 n = some r) : Spec Try.prog 18 [] [.clo (.func 13) [] []] [] (.ptr 1 0) [(91, ⟨69, true, r.l.flatMap encR68⟩), (1, ⟨67, false, [.clo (.func 13) [] [], .own 91 3 0 r.l.length, .sc (.int .i64 r.pushed)]⟩)] := by
  refine Spec.of (fn := Try.f18) Try.func18 Try.ntmps18 rfl rfl (le1 rfl) (fun w0 Zs Zb T0 ι0 => ?_)
  unfold m18 at h
  refine AWP.seq ?_
  refine AWP.region (.cons (.assign (lt1 rfl) (.const _ _ _)) <| ARun.nil _ _ _) ?_
  refine AWP.vc (s' := ⟨[(0, .clo (.func 13) [] [])], []⟩) (VC.sub (.c rfl <| .n _) (.n _)) ?_
  refine AWP.seq ?_
  refine AWP.seq ?_
  refine AWP.region (.cons (.move (lt1 rfl) (.tmp rfl)) <| .cons (.funNil0 (lt1 rfl) (.tmp rfl) Try.underlying29) <| ARun.nil _ _ _) ?_
  refine AWP.vc (s' := ⟨[(0, .clo (.func 13) [] []), (4, .sc (.bool false))], []⟩) (VC.sub (.c rfl <| .c rfl <| .n _) (.n _)) ?_
  refine AWP.cond (.tmp rfl) (fun hc => by cases hc) (fun _ => ?_)
  refine AWP.skip ?_
  refine AWP.seq ?_
  refine AWP.region (.cons (.move (lt1 rfl) (.tmp rfl)) <| .cons (.buildO (offs := [(0, 1), (1, 1), (2, 1)]) (lt1 rfl) (.cons (.tmp rfl) (by first | exact ⟨rfl, rfl⟩ | rfl) (.nil)) zero67 offs67 rfl) <| .cons (.box (t := 1) (n := 3) (lt1 rfl) (nm rfl) (.tmp rfl) (by first | exact ⟨rfl, rfl⟩ | rfl) rfl) <| .cons (.assign (lt1 rfl) (.tmp rfl)) <| ARun.nil _ _ _) ?_
  refine AWP.ret ?_
  obtain rfl := Option.some.inj h
  refine retJ (Res.vc (s' := ⟨[(2, .ptr 1 0)], [(91, ⟨69, true, ([] : List R68).flatMap encR68⟩), (1, ⟨67, false, [.clo (.func 13) [] [], .own 91 3 0 ([] : List R68).length, .sc (.int .i64 (0 : Int))]⟩)]⟩) (VC.trans (VC.trans (VC.newTag (t := 91) (E := 69) (nm rfl)) (VC.cell (t := 1) (i := 1) (v' := .own 91 3 0 0) rfl rfl rfl (fun _ _ _ _ h => nil_own h))) (VC.sub (.c rfl <| .n _) (.c rfl <| .c rfl <| .n _))) ?_)
  refine Res.sub (H := [(91, ⟨69, true, ([] : List R68).flatMap encR68⟩), (1, ⟨67, false, [.clo (.func 13) [] [], .own 91 3 0 ([] : List R68).length, .sc (.int .i64 (0 : Int))]⟩)]) (.c rfl <| .c rfl <| .n _) ?_
  exact Res.of rfl (.cons (.tmp rfl) (.nil)) rfl rfl
theorem c10 (n : Nat) {r : Bool} (h : m10 n = some r) : Spec Try.prog 10 [] [] [] (.sc (.bool r)) [] := by
  refine Spec.of (fn := Try.f10) Try.func10 Try.ntmps10 rfl rfl (le1 rfl) (fun w0 Zs Zb T0 ι0 => ?_)
  unfold m10 at h
  refine AWP.seq ?_
  refine AWP.region (.cons (.assign (lt1 rfl) (.const _ _ _)) <| ARun.nil _ _ _) ?_
  refine AWP.vc (s' := ⟨[], []⟩) (VC.sub (.n _) (.n _)) ?_
  refine AWP.seq ?_
  obtain ⟨y_1, hy_1, h⟩ := bindS h
  refine AWP.region (.cons (.buildSlice (t := 1) (out := ([(25 : Int), (13 : Int), (21 : Int), (11 : Int)] : List Int).flatMap (encI .i64)) (lt1 rfl) (nm rfl) (.cons (.const _ _ _) (by first | exact ⟨rfl, rfl⟩ | rfl) (.cons (.const _ _ _) (by first | exact ⟨rfl, rfl⟩ | rfl) (.cons (.const _ _ _) (by first | exact ⟨rfl, rfl⟩ | rfl) (.cons (.const _ _ _) (by first | exact ⟨rfl, rfl⟩ | rfl) (.nil))))) Try.underlying62 zero3 el3 (by decide) (by decide) rfl (still_all (encI_still .i64) _)) <| .cons (.call0 (bw := true) (lt1 rfl) (c30 (β1 := true) n ([(25 : Int), (13 : Int), (21 : Int), (11 : Int)] : List Int) hy_1) (.cons (.func _ _ _) (.ren rfl) (.cons (.tmp rfl) (.lendRow rfl rfl (encI_len .i64) rfl) (.nil))) rfl) <| .cons (.assign (lt1 rfl) (.tmp rfl)) <| ARun.nil _ _ _) ?_
  refine AWP.vc (s' := ⟨[(1, .rd false y_1.length (y_1.flatMap (encI .i64)))], []⟩) (VC.sub (.c rfl <| .n _) (.n _)) ?_
  refine AWP.seq ?_
  obtain ⟨y_2, hy_2, h⟩ := bindS h
  obtain ⟨y_3, hy_3, h⟩ := bindS h
  obtain ⟨y_4, hy_4, h⟩ := bindS h
  obtain ⟨y_5, hy_5, h⟩ := bindS h
  refine AWP.join' (S := fun p_8 : Bool => ⟨[(0, .sc (.bool p_8))], []⟩) h (fun p_8 h => ?_) (fun k_9 h => ?_)
  · refine AWP.ret ?_
    obtain rfl := Option.some.inj h
    refine retJ (Res.vc (s' := ⟨[(0, .sc (.bool p_8))], []⟩) (VC.sub (.c rfl <| .n _) (.n _)) ?_)
    refine Res.drop (H := []) rfl ?_
    exact Res.of rfl (.cons (.tmp rfl) (.nil)) rfl rfl
  · rcases boolTF (((((decide ((y_1.length : Int) = (4 : Int))) && (decide (y_2 = (13 : Int)))) && (decide (y_3 = (11 : Int)))) && (decide (y_4 = (25 : Int)))) && (decide (y_5 = (21 : Int)))) with hs_6 | hs_6
    · have h := iteT hs_6 h
      obtain ⟨y_7, hy_7, h⟩ := bindS h
      refine AWP.region (.cons (.move (lt1 rfl) (.tmp rfl)) <| .cons (.lenRd (lt1 rfl) (.tmp rfl) Try.underlying62) <| .cons (.eql (lt1 rfl) (.tmp rfl) (.const _ _ _)) <| .cons (.move (lt1 rfl) (.tmp rfl)) <| .guard (j := 3) (dj := 7) rfl (lt1 rfl) rfl (lt1 rfl) (fun hg => .move (lt1 rfl) (.tmp rfl)) <| .guard (j := 3) (dj := 7) rfl (lt1 rfl) rfl (lt1 rfl) (fun hg => .indexRd (enc := (encI .i64)) (lt1 rfl) (.gd hg (.tmp rfl)) (.const _ _ _) Try.underlying62 sz3 (encI_len .i64) rfl (gdB hy_2 hg)) <| .guard (j := 3) (dj := 7) rfl (lt1 rfl) rfl (lt1 rfl) (fun hg => .loadR (v := .sc (.int .i64 y_2)) (lt1 rfl) (.gd hg (.tmp rfl)) one3 rfl) <| .guard (j := 3) (dj := 7) rfl (lt1 rfl) rfl (lt1 rfl) (fun hg => .eql (lt1 rfl) (.gd hg (.tmp rfl)) (.const _ _ _)) <| .cons (.pickAnd (lt1 rfl) (.tmp rfl) (.tmp rfl) (.const _ _ _)) <| .cons (.move (lt1 rfl) (.tmp rfl)) <| .guard (j := 9) (dj := 13) rfl (lt1 rfl) rfl (lt1 rfl) (fun hg => .move (lt1 rfl) (.tmp rfl)) <| .guard (j := 9) (dj := 13) rfl (lt1 rfl) rfl (lt1 rfl) (fun hg => .indexRd (enc := (encI .i64)) (lt1 rfl) (.gd hg (.tmp rfl)) (.const _ _ _) Try.underlying62 sz3 (encI_len .i64) rfl (gdB hy_3 hg)) <| .guard (j := 9) (dj := 13) rfl (lt1 rfl) rfl (lt1 rfl) (fun hg => .loadR (v := .sc (.int .i64 y_3)) (lt1 rfl) (.gd hg (.tmp rfl)) one3 rfl) <| .guard (j := 9) (dj := 13) rfl (lt1 rfl) rfl (lt1 rfl) (fun hg => .eql (lt1 rfl) (.gd hg (.tmp rfl)) (.const _ _ _)) <| .cons (.pickAnd (lt1 rfl) (.tmp rfl) (.tmp rfl) (.const _ _ _)) <| .cons (.move (lt1 rfl) (.tmp rfl)) <| .guard (j := 15) (dj := 19) rfl (lt1 rfl) rfl (lt1 rfl) (fun hg => .move (lt1 rfl) (.tmp rfl)) <| .guard (j := 15) (dj := 19) rfl (lt1 rfl) rfl (lt1 rfl) (fun hg => .indexRd (enc := (encI .i64)) (lt1 rfl) (.gd hg (.tmp rfl)) (.const _ _ _) Try.underlying62 sz3 (encI_len .i64) rfl (gdB hy_4 hg)) <| .guard (j := 15) (dj := 19) rfl (lt1 rfl) rfl (lt1 rfl) (fun hg => .loadR (v := .sc (.int .i64 y_4)) (lt1 rfl) (.gd hg (.tmp rfl)) one3 rfl) <| .guard (j := 15) (dj := 19) rfl (lt1 rfl) rfl (lt1 rfl) (fun hg => .eql (lt1 rfl) (.gd hg (.tmp rfl)) (.const _ _ _)) <| .cons (.pickAnd (lt1 rfl) (.tmp rfl) (.tmp rfl) (.const _ _ _)) <| .cons (.move (lt1 rfl) (.tmp rfl)) <| .guard (j := 21) (dj := 25) rfl (lt1 rfl) rfl (lt1 rfl) (fun hg => .move (lt1 rfl) (.tmp rfl)) <| .guard (j := 21) (dj := 25) rfl (lt1 rfl) rfl (lt1 rfl) (fun hg => .indexRd (enc := (encI .i64)) (lt1 rfl) (.gd hg (.tmp rfl)) (.const _ _ _) Try.underlying62 sz3 (encI_len .i64) rfl (gdB hy_5 hg)) <| .guard (j := 21) (dj := 25) rfl (lt1 rfl) rfl (lt1 rfl) (fun hg => .loadR (v := .sc (.int .i64 y_5)) (lt1 rfl) (.gd hg (.tmp rfl)) one3 rfl) <| .guard (j := 21) (dj := 25) rfl (lt1 rfl) rfl (lt1 rfl) (fun hg => .eql (lt1 rfl) (.gd hg (.tmp rfl)) (.const _ _ _)) <| .cons (.pickAnd (lt1 rfl) (.tmp rfl) (.tmp rfl) (.const _ _ _)) <| .cons (.move (lt1 rfl) (.tmp rfl)) <| .guardT (j := 27) (dj := 31) rfl (lt1 rfl) rfl hs_6 (.call (σ := sgT [(1, 2), (91, 3)]) (bw := false) (lt1 rfl) (c18 n hy_7) (.cons (.func _ _ _) (.ren rfl) (.nil)) (CallOk.mk' (.n) rfl)) <| .guardT (j := 27) (dj := 31) rfl (lt1 rfl) rfl hs_6 (.ptrNil1 (lt1 rfl) (.tmp rfl) Try.underlying25) <| .cons (.pickT (lt1 rfl) (.tmp rfl) hs_6 (.tmp rfl)) <| .cons (.assign (lt1 rfl) (.tmp rfl)) <| ARun.nil _ _ _) ?_
      exact endJ true h (VC.sub (.c rfl <| .n _) (.n _))
    · have h := iteF hs_6 h
      refine AWP.region (.cons (.move (lt1 rfl) (.tmp rfl)) <| .cons (.lenRd (lt1 rfl) (.tmp rfl) Try.underlying62) <| .cons (.eql (lt1 rfl) (.tmp rfl) (.const _ _ _)) <| .cons (.move (lt1 rfl) (.tmp rfl)) <| .guard (j := 3) (dj := 7) rfl (lt1 rfl) rfl (lt1 rfl) (fun hg => .move (lt1 rfl) (.tmp rfl)) <| .guard (j := 3) (dj := 7) rfl (lt1 rfl) rfl (lt1 rfl) (fun hg => .indexRd (enc := (encI .i64)) (lt1 rfl) (.gd hg (.tmp rfl)) (.const _ _ _) Try.underlying62 sz3 (encI_len .i64) rfl (gdB hy_2 hg)) <| .guard (j := 3) (dj := 7) rfl (lt1 rfl) rfl (lt1 rfl) (fun hg => .loadR (v := .sc (.int .i64 y_2)) (lt1 rfl) (.gd hg (.tmp rfl)) one3 rfl) <| .guard (j := 3) (dj := 7) rfl (lt1 rfl) rfl (lt1 rfl) (fun hg => .eql (lt1 rfl) (.gd hg (.tmp rfl)) (.const _ _ _)) <| .cons (.pickAnd (lt1 rfl) (.tmp rfl) (.tmp rfl) (.const _ _ _)) <| .cons (.move (lt1 rfl) (.tmp rfl)) <| .guard (j := 9) (dj := 13) rfl (lt1 rfl) rfl (lt1 rfl) (fun hg => .move (lt1 rfl) (.tmp rfl)) <| .guard (j := 9) (dj := 13) rfl (lt1 rfl) rfl (lt1 rfl) (fun hg => .indexRd (enc := (encI .i64)) (lt1 rfl) (.gd hg (.tmp rfl)) (.const _ _ _) Try.underlying62 sz3 (encI_len .i64) rfl (gdB hy_3 hg)) <| .guard (j := 9) (dj := 13) rfl (lt1 rfl) rfl (lt1 rfl) (fun hg => .loadR (v := .sc (.int .i64 y_3)) (lt1 rfl) (.gd hg (.tmp rfl)) one3 rfl) <| .guard (j := 9) (dj := 13) rfl (lt1 rfl) rfl (lt1 rfl) (fun hg => .eql (lt1 rfl) (.gd hg (.tmp rfl)) (.const _ _ _)) <| .cons (.pickAnd (lt1 rfl) (.tmp rfl) (.tmp rfl) (.const _ _ _)) <| .cons (.move (lt1 rfl) (.tmp rfl)) <| .guard (j := 15) (dj := 19) rfl (lt1 rfl) rfl (lt1 rfl) (fun hg => .move (lt1 rfl) (.tmp rfl)) <| .guard (j := 15) (dj := 19) rfl (lt1 rfl) rfl (lt1 rfl) (fun hg => .indexRd (enc := (encI .i64)) (lt1 rfl) (.gd hg (.tmp rfl)) (.const _ _ _) Try.underlying62 sz3 (encI_len .i64) rfl (gdB hy_4 hg)) <| .guard (j := 15) (dj := 19) rfl (lt1 rfl) rfl (lt1 rfl) (fun hg => .loadR (v := .sc (.int .i64 y_4)) (lt1 rfl) (.gd hg (.tmp rfl)) one3 rfl) <| .guard (j := 15) (dj := 19) rfl (lt1 rfl) rfl (lt1 rfl) (fun hg => .eql (lt1 rfl) (.gd hg (.tmp rfl)) (.const _ _ _)) <| .cons (.pickAnd (lt1 rfl) (.tmp rfl) (.tmp rfl) (.const _ _ _)) <| .cons (.move (lt1 rfl) (.tmp rfl)) <| .guard (j := 21) (dj := 25) rfl (lt1 rfl) rfl (lt1 rfl) (fun hg => .move (lt1 rfl) (.tmp rfl)) <| .guard (j := 21) (dj := 25) rfl (lt1 rfl) rfl (lt1 rfl) (fun hg => .indexRd (enc := (encI .i64)) (lt1 rfl) (.gd hg (.tmp rfl)) (.const _ _ _) Try.underlying62 sz3 (encI_len .i64) rfl (gdB hy_5 hg)) <| .guard (j := 21) (dj := 25) rfl (lt1 rfl) rfl (lt1 rfl) (fun hg => .loadR (v := .sc (.int .i64 y_5)) (lt1 rfl) (.gd hg (.tmp rfl)) one3 rfl) <| .guard (j := 21) (dj := 25) rfl (lt1 rfl) rfl (lt1 rfl) (fun hg => .eql (lt1 rfl) (.gd hg (.tmp rfl)) (.const _ _ _)) <| .cons (.pickAnd (lt1 rfl) (.tmp rfl) (.tmp rfl) (.const _ _ _)) <| .cons (.move (lt1 rfl) (.tmp rfl)) <| .guardF (j := 27) (dj := 31) rfl (lt1 rfl) rfl (lt1 rfl) hs_6 <| .guardF (j := 27) (dj := 31) rfl (lt1 rfl) rfl (lt1 rfl) hs_6 <| .cons (.pickF (lt1 rfl) (.tmp rfl) hs_6 (.const _ _ _)) <| .cons (.assign (lt1 rfl) (.tmp rfl)) <| ARun.nil _ _ _) ?_
      exact endJ false h (VC.sub (.c rfl <| .n _) (.n _))
theorem c18x1 (n : Nat) {r : Unit} (h : m18x1 n = some r) : Spec Try.prog 18 [] [.sc Value.nilFunc] [] (.sc (Value.pointer none)) [] := by
  refine Spec.of (fn := Try.f18) Try.func18 Try.ntmps18 rfl rfl (le1 rfl) (fun w0 Zs Zb T0 ι0 => ?_)
  unfold m18x1 at h
  refine AWP.seq ?_
  refine AWP.region (.cons (.assign (lt1 rfl) (.const _ _ _)) <| ARun.nil _ _ _) ?_
  refine AWP.vc (s' := ⟨[(0, .sc Value.nilFunc)], []⟩) (VC.sub (.c rfl <| .n _) (.n _)) ?_
  refine AWP.seq ?_
  refine AWP.seq ?_
  refine AWP.region (.cons (.move (lt1 rfl) (.tmp rfl)) <| .cons (.noFun0 (lt1 rfl) (.tmp rfl) Try.underlying29) <| ARun.nil _ _ _) ?_
  refine AWP.vc (s' := ⟨[(0, .sc Value.nilFunc), (4, .sc (.bool true))], []⟩) (VC.sub (.c rfl <| .c rfl <| .n _) (.n _)) ?_
  refine AWP.cond (.tmp rfl) (fun _ => ?_) (fun hc => by cases hc)
  refine AWP.seq ?_
  refine AWP.region (.cons (.assign (lt1 rfl) (.const _ _ _)) <| ARun.nil _ _ _) ?_
  refine AWP.ret ?_
  obtain rfl := Option.some.inj h
  refine retJ (Res.vc (s' := ⟨[(2, .sc (Value.pointer none))], []⟩) (VC.sub (.c rfl <| .n _) (.n _)) ?_)
  refine Res.drop (H := []) rfl ?_
  exact Res.of rfl (.cons (.tmp rfl) (.nil)) rfl rfl
theorem c19 (n : Nat) (a1 : R27) {r : Unit} (h : m19 n a1 = some r) : Spec Try.prog 19 [] [.sc (Value.pointer none), .agg [.sc (.int .i64 a1.Key), .sc (.int .i64 a1.Tag)]] [] (.tup []) [] := by
  refine Spec.of (fn := Try.f19) Try.func19 Try.ntmps19 rfl rfl (le1 rfl) (fun w0 Zs Zb T0 ι0 => ?_)
  unfold m19 at h
  refine AWP.seq ?_
  refine AWP.region (.cons (.box (t := 1) (n := 2) (lt1 rfl) (nm rfl) (.tmp rfl) (by first | exact ⟨rfl, rfl⟩ | rfl) rfl) <| ARun.nil _ _ _) ?_
  refine AWP.vc (s' := ⟨[(0, .sc (Value.pointer none)), (3, .ptr 1 0)], [(1, ⟨28, false, [.sc (.int .i64 a1.Key), .sc (.int .i64 a1.Tag)]⟩)]⟩) (VC.sub (.c rfl <| .c rfl <| .n _) (.c rfl <| .n _)) ?_
  refine AWP.seq ?_
  refine AWP.seq ?_
  refine AWP.region (.cons (.move (lt1 rfl) (.tmp rfl)) <| .cons (.nilNil0 (lt1 rfl) (.tmp rfl) Try.underlying25) <| ARun.nil _ _ _) ?_
  refine AWP.vc (s' := ⟨[(0, .sc (Value.pointer none)), (3, .ptr 1 0), (7, .sc (.bool true))], [(1, ⟨28, false, [.sc (.int .i64 a1.Key), .sc (.int .i64 a1.Tag)]⟩)]⟩) (VC.sub (.c rfl <| .c rfl <| .c rfl <| .n _) (.c rfl <| .n _)) ?_
  refine AWP.cond (.tmp rfl) (fun _ => ?_) (fun hc => by cases hc)
  refine AWP.ret ?_
  obtain rfl := Option.some.inj h
  refine retJ (Res.vc (s' := ⟨[], []⟩) (VC.sub (.n _) (.n _)) ?_)
  refine Res.drop (H := []) rfl ?_
  exact Res.of rfl (.nil) rfl rfl
theorem c12 {β1 : Bool} (n : Nat) (a1 : (List R27)) {r : Unit} (h : m12 n a1 = some r) : Spec Try.prog 12 [] [.sc Value.nilFunc, .rd β1 a1.length (a1.flatMap encR27)] [] (.sc (Value.pointer none)) [] := by
  refine Spec.of (fn := Try.f12) Try.func12 Try.ntmps12 rfl rfl (le1 rfl) (fun w0 Zs Zb T0 ι0 => ?_)
  unfold m12 at h
  refine AWP.seq ?_
  refine AWP.region (.cons (.assign (lt1 rfl) (.const _ _ _)) <| ARun.nil _ _ _) ?_
  refine AWP.vc (s' := ⟨[(0, .sc Value.nilFunc), (1, .rd β1 a1.length (a1.flatMap encR27))], []⟩) (VC.sub (.c rfl <| .c rfl <| .n _) (.n _)) ?_
  refine AWP.seq ?_
  obtain ⟨y_1, hy_1, h⟩ := bindS h
  obtain rfl : () = y_1 := Option.some.inj hy_1
  refine AWP.region (.cons (.move (lt1 rfl) (.tmp rfl)) <| .cons (.call0 (bw := false) (lt1 rfl) (c18x1 n hy_1) (.cons (.tmp rfl) (.ren rfl) (.nil)) rfl) <| .cons (.assign (lt1 rfl) (.tmp rfl)) <| ARun.nil _ _ _) ?_
  refine AWP.vc (s' := ⟨[(1, .rd β1 a1.length (a1.flatMap encR27)), (5, .sc (Value.pointer none))], []⟩) (VC.sub (.c rfl <| .c rfl <| .n _) (.n _)) ?_
  refine AWP.seq ?_
  refine AWP.seq ?_
  refine AWP.region (.cons (.move (lt1 rfl) (.tmp rfl)) <| .cons (.lenRd (lt1 rfl) (.tmp rfl) Try.underlying22) <| .cons (.move (lt1 rfl) (.const _ _ _)) <| ARun.nil _ _ _) ?_
  refine AWP.vc (s' := ⟨[(5, .sc (Value.pointer none)), (10, .rd β1 a1.length (a1.flatMap encR27)), (11, .sc (.int .i64 (a1.length : Int))), (12, .sc (.int .i64 (0 : Int)))], []⟩) (VC.sub (.c rfl <| .c rfl <| .c rfl <| .c rfl <| .n _) (.n _)) ?_
  refine AWP.joinB' (S := fun p_15 : Unit => ⟨[(5, .sc (Value.pointer none))], []⟩) h (fun p_15 h => ?_) (fun k_16 h => ?_)
  · refine AWP.seq ?_
    refine AWP.region (.cons (.move (lt1 rfl) (.tmp rfl)) <| .cons (.assign (lt1 rfl) (.tmp rfl)) <| ARun.nil _ _ _) ?_
    refine AWP.ret ?_
    obtain rfl := Option.some.inj h
    refine retJ (Res.vc (s' := ⟨[(4, .sc (Value.pointer none))], []⟩) (VC.sub (.c rfl <| .n _) (.n _)) ?_)
    refine Res.drop (H := []) rfl ?_
    exact Res.of rfl (.cons (.tmp rfl) (.nil)) rfl rfl
  · refine AWP.vc (s' := ⟨[(5, .sc (Value.pointer none)), (10, .rd β1 a1.length (a1.flatMap encR27)), (11, .sc (.int .i64 (a1.length : Int))), (12, .sc (.int .i64 (0 : Int)))], []⟩) (VC.sub (.c rfl <| .c rfl <| .c rfl <| .c rfl <| .n _) (.n _)) ?_
    refine AWP.loopM (S := fun x_10 : Int => ⟨[(5, .sc (Value.pointer none)), (10, .rd β1 a1.length (a1.flatMap encR27)), (11, .sc (.int .i64 (a1.length : Int))), (12, .sc (.int .i64 x_10))], []⟩) (x := (0 : Int)) (fun nx_11 x_10 h => ?_) h
    unfold m12_L1 at h
    refine AWP.seq ?_
    refine AWP.region (.cons (.lss (lt1 rfl) (.tmp rfl) (.tmp rfl)) <| ARun.nil _ _ _) ?_
    refine AWP.vc (s' := ⟨[(5, .sc (Value.pointer none)), (10, .rd β1 a1.length (a1.flatMap encR27)), (11, .sc (.int .i64 (a1.length : Int))), (12, .sc (.int .i64 x_10)), (13, .sc (.bool (decide (x_10 < (a1.length : Int)))))], []⟩) (VC.sub (.c rfl <| .c rfl <| .c rfl <| .c rfl <| .c rfl <| .n _) (.n _)) ?_
    refine AWP.seq ?_
    refine AWP.cond (.tmp rfl) (fun hc => ?_) (fun hc => ?_)
    · have h := iteT hc h
      refine AWP.skip ?_
      refine AWP.seq ?_
      refine AWP.block ?_
      refine AWP.seq ?_
      obtain ⟨y_12, hy_12, h⟩ := bindS h
      refine AWP.region (.cons (.indexRd (enc := encR27) (lt1 rfl) (.tmp rfl) (.tmp rfl) Try.underlying22 sz28 encR27_len rfl hy_12) <| .cons (.loadRA (out := [.sc (.int .i64 y_12.Key), .sc (.int .i64 y_12.Tag)]) (lt1 rfl) (.tmp rfl) agg28 (Nat.le_of_eq (Eq.symm (encR27_len _))) rfl) <| .cons (.alloc (t := 1) (k := ⟨28, false, [.sc (.int .i64 (0 : Int)), .sc (.int .i64 (0 : Int))]⟩) (lt1 rfl) (nm rfl) zero28 rfl rfl) <| .cons (.storePA (.tmp rfl) (.tmp rfl) sz28 rfl rfl (le1 rfl) (one_lit rfl) (by intro h; cases h) rfl) <| ARun.nil _ _ _) ?_
      refine AWP.vc (s' := ⟨[(5, .sc (Value.pointer none)), (10, .rd β1 a1.length (a1.flatMap encR27)), (11, .sc (.int .i64 (a1.length : Int))), (12, .sc (.int .i64 x_10)), (7, .ptr 1 0)], [(1, ⟨28, false, [.sc (.int .i64 y_12.Key), .sc (.int .i64 y_12.Tag)]⟩)]⟩) (VC.sub (.c rfl <| .c rfl <| .c rfl <| .c rfl <| .c rfl <| .n _) (.c rfl <| .n _)) ?_
      obtain ⟨y_13, hy_13, h⟩ := bindS h
      refine AWP.region (.cons (.move (lt1 rfl) (.tmp rfl)) <| .cons (.loadPA (lt1 rfl) (.tmp rfl) agg28 rfl rfl rfl rfl) <| .cons (.call0 (bw := false) (lt1 rfl) (c19 n (R27.mk y_12.Key y_12.Tag) hy_13) (.cons (.tmp rfl) (.ren rfl) (.cons (.tmp rfl) (.ren rfl) (.nil))) rfl) <| ARun.nil _ _ _) ?_
      refine AWP.vc (s' := ⟨[(5, .sc (Value.pointer none)), (10, .rd β1 a1.length (a1.flatMap encR27)), (11, .sc (.int .i64 (a1.length : Int))), (12, .sc (.int .i64 x_10))], []⟩) (VC.sub (.c rfl <| .c rfl <| .c rfl <| .c rfl <| .n _) (.n _)) ?_
      obtain ⟨t12_14, ht12_14, h⟩ := letS h
      refine AWP.region (.cons (.add (lt1 rfl) (.tmp rfl) (.const _ _ _)) <| .cons (.move (lt1 rfl) (.tmp rfl)) <| ARun.nil _ _ _) ?_
      exact endJ t12_14 h (by subst ht12_14; exact VC.sub (.c rfl <| .c rfl <| .c rfl <| .c rfl <| .n _) (.n _))
    · have h := iteF hc h
      refine AWP.exit ?_
      exact endJ () h (VC.sub (.c rfl <| .n _) (.n _))
theorem c20 (n : Nat) {r : Unit} (h : m20 n = some r) : Spec Try.prog 20 [] [.sc (Value.pointer none)] [] (.clo (.func 33) [] [.ptr 1 0]) [(1, ⟨25, false, [.sc (Value.pointer none)]⟩)] := by
  refine Spec.of (fn := Try.f20) Try.func20 Try.ntmps20 rfl rfl (le1 rfl) (fun w0 Zs Zb T0 ι0 => ?_)
  unfold m20 at h
  refine AWP.seq ?_
  refine AWP.region (.cons (.box (t := 1) (n := 1) (lt1 rfl) (nm rfl) (.tmp rfl) (by first | exact ⟨rfl, rfl⟩ | rfl) rfl) <| .cons (.assign (lt1 rfl) (.const _ _ _)) <| ARun.nil _ _ _) ?_
  refine AWP.vc (s' := ⟨[(1, .ptr 1 0)], [(1, ⟨25, false, [.sc (Value.pointer none)]⟩)]⟩) (VC.sub (.c rfl <| .n _) (.c rfl <| .n _)) ?_
  refine AWP.seq ?_
  refine AWP.region (.cons (.makeFunc (lt1 rfl) (.nil) (.cons (.tmp rfl) (.nil))) <| .cons (.assign (lt1 rfl) (.tmp rfl)) <| ARun.nil _ _ _) ?_
  refine AWP.ret ?_
  obtain rfl := Option.some.inj h
  refine retJ (Res.vc (s' := ⟨[(2, .clo (.func 33) [] [.ptr 1 0])], [(1, ⟨25, false, [.sc (Value.pointer none)]⟩)]⟩) (VC.sub (.c rfl <| .n _) (.c rfl <| .n _)) ?_)
  refine Res.sub (H := [(1, ⟨25, false, [.sc (Value.pointer none)]⟩)]) (.c rfl <| .n _) ?_
  exact Res.of rfl (.cons (.tmp rfl) (.nil)) rfl rfl
theorem c23 (n : Nat) {r : Unit} (h : m23 n = some r) : Spec Try.prog 23 [] [.sc (Value.pointer none)] [] (.sc (Value.pointer none)) [] := by
  refine Spec.of (fn := Try.f23) Try.func23 Try.ntmps23 rfl rfl (le1 rfl) (fun w0 Zs Zb T0 ι0 => ?_)
  unfold m23 at h
  refine AWP.seq ?_
  refine AWP.region (.cons (.assign (lt1 rfl) (.const _ _ _)) <| ARun.nil _ _ _) ?_
  refine AWP.vc (s' := ⟨[(0, .sc (Value.pointer none))], []⟩) (VC.sub (.c rfl <| .n _) (.n _)) ?_
  refine AWP.seq ?_
  refine AWP.seq ?_
  refine AWP.region (.cons (.move (lt1 rfl) (.tmp rfl)) <| .cons (.nilNil0 (lt1 rfl) (.tmp rfl) Try.underlying25) <| ARun.nil _ _ _) ?_
  refine AWP.vc (s' := ⟨[(0, .sc (Value.pointer none)), (4, .sc (.bool true))], []⟩) (VC.sub (.c rfl <| .c rfl <| .n _) (.n _)) ?_
  refine AWP.cond (.tmp rfl) (fun _ => ?_) (fun hc => by cases hc)
  refine AWP.seq ?_
  refine AWP.region (.cons (.assign (lt1 rfl) (.const _ _ _)) <| ARun.nil _ _ _) ?_
  refine AWP.ret ?_
  obtain rfl := Option.some.inj h
  refine retJ (Res.vc (s' := ⟨[(2, .sc (Value.pointer none))], []⟩) (VC.sub (.c rfl <| .n _) (.n _)) ?_)
  refine Res.drop (H := []) rfl ?_
  exact Res.of rfl (.cons (.tmp rfl) (.nil)) rfl rfl
theorem c16 (n : Nat) {r : Int} (h : m16 n = some r) : Spec Try.prog 16 [] [.sc (Value.pointer none)] [] (.sc (.int .i64 r)) [] := by
  refine Spec.of (fn := Try.f16) Try.func16 Try.ntmps16 rfl rfl (le1 rfl) (fun w0 Zs Zb T0 ι0 => ?_)
  unfold m16 at h
  refine AWP.seq ?_
  refine AWP.region (.cons (.assign (lt1 rfl) (.const _ _ _)) <| ARun.nil _ _ _) ?_
  refine AWP.vc (s' := ⟨[(0, .sc (Value.pointer none))], []⟩) (VC.sub (.c rfl <| .n _) (.n _)) ?_
  refine AWP.seq ?_
  refine AWP.seq ?_
  refine AWP.region (.cons (.move (lt1 rfl) (.tmp rfl)) <| .cons (.nilNil0 (lt1 rfl) (.tmp rfl) Try.underlying25) <| ARun.nil _ _ _) ?_
  refine AWP.vc (s' := ⟨[(0, .sc (Value.pointer none)), (4, .sc (.bool true))], []⟩) (VC.sub (.c rfl <| .c rfl <| .n _) (.n _)) ?_
  refine AWP.cond (.tmp rfl) (fun _ => ?_) (fun hc => by cases hc)
  refine AWP.seq ?_
  refine AWP.region (.cons (.assign (lt1 rfl) (.const _ _ _)) <| ARun.nil _ _ _) ?_
  refine AWP.ret ?_
  obtain rfl := Option.some.inj h
  refine retJ (Res.vc (s' := ⟨[(2, .sc (.int .i64 (0 : Int)))], []⟩) (VC.sub (.c rfl <| .n _) (.n _)) ?_)
  refine Res.drop (H := []) rfl ?_
  exact Res.of rfl (.cons (.tmp rfl) (.nil)) rfl rfl
theorem c21 (n : Nat) {r : (R27 × Bool)} (h : m21 n = some r) : Spec Try.prog 21 [] [.sc (Value.pointer none)] [] (.tup [.agg [.sc (.int .i64 r.1.Key), .sc (.int .i64 r.1.Tag)], .sc (.bool r.2)]) [] := by
  refine Spec.of (fn := Try.f21) Try.func21 Try.ntmps21 rfl rfl (le1 rfl) (fun w0 Zs Zb T0 ι0 => ?_)
  unfold m21 at h
  refine AWP.seq ?_
  refine AWP.region (.cons (.alloc (t := 1) (k := ⟨28, false, [.sc (.int .i64 (0 : Int)), .sc (.int .i64 (0 : Int))]⟩) (lt1 rfl) (nm rfl) zero28 rfl rfl) <| .cons (.assign (lt1 rfl) (.const _ _ _)) <| ARun.nil _ _ _) ?_
  refine AWP.vc (s' := ⟨[(0, .sc (Value.pointer none)), (2, .ptr 1 0)], [(1, ⟨28, false, [.sc (.int .i64 (0 : Int)), .sc (.int .i64 (0 : Int))]⟩)]⟩) (VC.sub (.c rfl <| .c rfl <| .n _) (.c rfl <| .n _)) ?_
  refine AWP.seq ?_
  refine AWP.seq ?_
  obtain ⟨y_1, hy_1, h⟩ := bindS h
  obtain rfl : (0 : Int) = y_1 := Option.some.inj hy_1
  refine AWP.region (.cons (.move (lt1 rfl) (.tmp rfl)) <| .cons (.call0 (bw := false) (lt1 rfl) (c16 n hy_1) (.cons (.tmp rfl) (.ren rfl) (.nil)) rfl) <| .cons (.eql (lt1 rfl) (.tmp rfl) (.const _ _ _)) <| ARun.nil _ _ _) ?_
  refine AWP.vc (s' := ⟨[(0, .sc (Value.pointer none)), (2, .ptr 1 0), (11, .sc (.bool true))], [(1, ⟨28, false, [.sc (.int .i64 (0 : Int)), .sc (.int .i64 (0 : Int))]⟩)]⟩) (VC.sub (.c rfl <| .c rfl <| .c rfl <| .n _) (.c rfl <| .n _)) ?_
  refine AWP.cond (.tmp rfl) (fun _ => ?_) (fun hc => by cases hc)
  refine AWP.seq ?_
  refine AWP.region (.cons (.loadPA (lt1 rfl) (.tmp rfl) agg28 rfl rfl rfl rfl) <| .cons (.storePA (.tmp rfl) (.tmp rfl) sz28 rfl rfl (le1 rfl) (one_lit rfl) (by intro h; cases h) rfl) <| .cons (.assign (lt1 rfl) (.const _ _ _)) <| ARun.nil _ _ _) ?_
  refine AWP.ret ?_
  obtain rfl := Option.some.inj h
  refine retJ (Res.vc (s' := ⟨[(2, .ptr 1 0), (3, .sc (.bool false))], [(1, ⟨28, false, [.sc (.int .i64 (0 : Int)), .sc (.int .i64 (0 : Int))]⟩)]⟩) (VC.sub (.c rfl <| .c rfl <| .n _) (.c rfl <| .n _)) ?_)
  refine Res.drop (H := [(1, ⟨28, false, [.sc (.int .i64 (0 : Int)), .sc (.int .i64 (0 : Int))]⟩)]) rfl ?_
  exact Res.of rfl (.cons (.cell rfl agg28 rfl rfl rfl rfl) (.cons (.tmp rfl) (.nil))) rfl rfl
theorem i33 (n : Nat) {r : (List R27)} (h : m33 n = some r) : ItSpec Try.prog 33 [.ptr 1 0] [(1, ⟨25, false, [.sc (Value.pointer none)]⟩)] (fun e_ : R27 => [.agg [.sc (.int .i64 e_.Key), .sc (.int .i64 e_.Tag)]]) r := by
  refine ItSpec.of (fn := Try.f33) Try.func33 Try.ntmps33 rfl rfl (le1 rfl) (fun tm w => ⟨_, results_none rfl tm _ w⟩) (fun l ι0 Zs Zb J Jx hJ hJx hR => ?_)
  unfold m33 at h
  refine AWPF.seq ?_
  obtain ⟨y_1, hy_1, h⟩ := bindS h
  obtain rfl : () = y_1 := Option.some.inj hy_1
  refine AWPF.of fun d_ => AWP.region (.cons (.loadP (lt1 rfl) (.tmp rfl) one25 rfl rfl rfl) <| .cons (.call0 (bw := false) (lt1 rfl) (c23 n hy_1) (.cons (.tmp rfl) (.ren rfl) (.nil)) rfl) <| .cons (.assign (lt1 rfl) (.tmp rfl)) <| ARun.nil _ _ _) ?_
  refine AWPF.vc (s' := ⟨[(0, .sc (.func (.yield l) #[] #[])), (3, .sc (Value.pointer none))], [(1, ⟨25, false, [.sc (Value.pointer none)]⟩)]⟩) (fun d_ => VC.sub (.c rfl <| .c rfl <| .n _) (.c rfl <| .n _)) ?_
  refine AWPF.seq ?_
  obtain ⟨y_2, hy_2, h⟩ := bindS h
  refine AWPF.of fun d_ => AWP.region (.cons (.move (lt1 rfl) (.tmp rfl)) <| .cons (.call0 (bw := false) (lt1 rfl) (c21 n hy_2) (.cons (.tmp rfl) (.ren rfl) (.nil)) rfl) <| .cons (.move (lt1 rfl) (.tmp rfl)) <| .cons (.extract (lt1 rfl) (.tmp rfl) rfl) <| .cons (.extract (lt1 rfl) (.tmp rfl) rfl) <| .cons (.alloc (t := 2) (k := ⟨28, false, [.sc (.int .i64 (0 : Int)), .sc (.int .i64 (0 : Int))]⟩) (lt1 rfl) (nm rfl) zero28 rfl rfl) <| .cons (.storePA (.tmp rfl) (.tmp rfl) sz28 rfl rfl (le1 rfl) (one_lit rfl) (by intro h; cases h) rfl) <| .cons (.assign (lt1 rfl) (.tmp rfl)) <| ARun.nil _ _ _) ?_
  refine AWPF.vc (s' := ⟨[(0, .sc (.func (.yield l) #[] #[])), (3, .sc (Value.pointer none)), (4, .ptr 2 0), (5, .sc (.bool y_2.2))], [(2, ⟨28, false, [.sc (.int .i64 y_2.1.Key), .sc (.int .i64 y_2.1.Tag)]⟩), (1, ⟨25, false, [.sc (Value.pointer none)]⟩)]⟩) (fun d_ => VC.sub (.c rfl <| .c rfl <| .c rfl <| .c rfl <| .n _) (.c rfl <| .c rfl <| .n _)) ?_
  refine AWPF.joinB' (S := fun p_19 : Unit => ⟨[], [(1, ⟨25, false, [.sc (Value.pointer none)]⟩)]⟩) h (fun p_19 r h => ?_) (fun k_20 h => ?_)
  · obtain rfl := Option.some.inj h
    exact ⟨.inr rfl, .inl rfl⟩
  · refine AWPF.vc (s' := ⟨[(0, .sc (.func (.yield l) #[] #[])), (3, .sc (Value.pointer none)), (4, .ptr 2 0), (5, .sc (.bool y_2.2))], [(1, ⟨25, false, [.sc (Value.pointer none)]⟩), (2, ⟨28, false, [.sc (.int .i64 y_2.1.Key), .sc (.int .i64 y_2.1.Tag)]⟩)]⟩) (fun d_ => VC.sub (.c rfl <| .c rfl <| .c rfl <| .c rfl <| .n _) (.c rfl <| .c rfl <| .n _)) ?_
    refine AWPF.loopM (S := fun x_13 : Bool × Int × Int => ⟨[(0, .sc (.func (.yield l) #[] #[])), (3, .sc (Value.pointer none)), (4, .ptr 2 0), (5, .sc (.bool x_13.1))], [(1, ⟨25, false, [.sc (Value.pointer none)]⟩), (2, ⟨28, false, [.sc (.int .i64 x_13.2.1), .sc (.int .i64 x_13.2.2)]⟩)]⟩) (x := (y_2.2, y_2.1.Key, y_2.1.Tag)) (fun nx_14 x_13 r h => ?_) h
    unfold m33_L1 at h
    refine AWPF.seq ?_
    refine AWPF.seq ?_
    refine AWPF.of fun d_ => AWP.region (.cons (.move (lt1 rfl) (.tmp rfl)) <| ARun.nil _ _ _) ?_
    refine AWPF.vc (s' := ⟨[(0, .sc (.func (.yield l) #[] #[])), (3, .sc (Value.pointer none)), (4, .ptr 2 0), (13, .sc (.bool x_13.1))], [(1, ⟨25, false, [.sc (Value.pointer none)]⟩), (2, ⟨28, false, [.sc (.int .i64 x_13.2.1), .sc (.int .i64 x_13.2.2)]⟩)]⟩) (fun d_ => VC.sub (.c rfl <| .c rfl <| .c rfl <| .c rfl <| .n _) (.c rfl <| .c rfl <| .n _)) ?_
    refine AWPF.cond (fun d_ => .tmp rfl) (fun hc => ?_) (fun hc => ?_)
    · have h := iteT hc h
      refine AWPF.skip ?_
      refine AWPF.seq ?_
      refine AWPF.block ?_
      refine AWPF.seq ?_
      obtain ⟨rest_16, hy_15⟩ := yldS h
      refine AWPF.regionY (.cons (fun d_ => .move (lt1 rfl) (.tmp rfl)) <| .cons (fun d_ => .loadPA (lt1 rfl) (.tmp rfl) agg28 rfl rfl rfl rfl) <| .y0 hJ hJx hR hy_15 (lt1 rfl) (fun d_ => .tmp rfl) (fun d_ => .cons (.tmp rfl) rfl (.nil)) (fun b_17 d_ =>  .cons (.not (lt1 rfl) (.tmp rfl)) <| ARun.nil _ _ _)) (fun b_17 => ?_)
      refine AWPF.vc (s' := ⟨[(0, .sc (.func (.yield l) #[] #[])), (3, .sc (Value.pointer none)), (4, .ptr 2 0), (22, .sc (.bool (!b_17)))], [(1, ⟨25, false, [.sc (Value.pointer none)]⟩), (2, ⟨28, false, [.sc (.int .i64 x_13.2.1), .sc (.int .i64 x_13.2.2)]⟩)]⟩) (fun d_ => VC.sub (.c rfl <| .c rfl <| .c rfl <| .c rfl <| .n _) (.c rfl <| .c rfl <| .n _)) ?_
      refine AWPF.condY hy_15 (fun d_ => .tmp rfl) (fun g_ hg_ => ?_) (fun h => ?_)
      · refine AWPF.ret ?_
        exact ⟨.inl rfl, hg_⟩
      · refine AWPF.skip ?_
        refine AWPF.seq ?_
        refine AWPF.seq ?_
        refine AWPF.of fun d_ => AWP.region (.cons (.loadPA (lt1 rfl) (.tmp rfl) agg28 rfl rfl rfl rfl) <| ARun.nil _ _ _) ?_
        refine AWPF.vc (s' := ⟨[(0, .sc (.func (.yield l) #[] #[])), (3, .sc (Value.pointer none)), (23, .agg [.sc (.int .i64 x_13.2.1), .sc (.int .i64 x_13.2.2)])], [(1, ⟨25, false, [.sc (Value.pointer none)]⟩)]⟩) (fun d_ => VC.sub (.c rfl <| .c rfl <| .c rfl <| .n _) (.c rfl <| .n _)) ?_
        refine AWPF.of fun d_ => AWP.region (.cons (.alloc (t := 3) (k := ⟨28, false, [.sc (.int .i64 (0 : Int)), .sc (.int .i64 (0 : Int))]⟩) (lt1 rfl) (nm rfl) zero28 rfl rfl) <| .cons (.storePA (.tmp rfl) (.tmp rfl) sz28 rfl rfl (le1 rfl) (one_lit rfl) (by intro h; cases h) rfl) <| ARun.nil _ _ _) ?_
        refine AWPF.vc (s' := ⟨[(0, .sc (.func (.yield l) #[] #[])), (3, .sc (Value.pointer none)), (4, .ptr 3 0)], [(3, ⟨28, false, [.sc (.int .i64 x_13.2.1), .sc (.int .i64 x_13.2.2)]⟩), (1, ⟨25, false, [.sc (Value.pointer none)]⟩)]⟩) (fun d_ => VC.sub (.c rfl <| .c rfl <| .c rfl <| .n _) (.c rfl <| .c rfl <| .n _)) ?_
        obtain ⟨y_18, hy_18, h⟩ := bindS h
        refine AWPF.of fun d_ => AWP.region (.cons (.move (lt1 rfl) (.tmp rfl)) <| .cons (.call0 (bw := false) (lt1 rfl) (c21 n hy_18) (.cons (.tmp rfl) (.ren rfl) (.nil)) rfl) <| .cons (.move (lt1 rfl) (.tmp rfl)) <| .cons (.extract (lt1 rfl) (.tmp rfl) rfl) <| .cons (.extract (lt1 rfl) (.tmp rfl) rfl) <| .cons (.storePA (.tmp rfl) (.tmp rfl) sz28 rfl rfl (le1 rfl) (one_lit rfl) (by intro h; cases h) rfl) <| .cons (.assign (lt1 rfl) (.tmp rfl)) <| ARun.nil _ _ _) ?_
        exact endJF (y_18.2, y_18.1.Key, y_18.1.Tag) h (fun d_ => VC.trans ((VC.sub (.c rfl <| .c rfl <| .c rfl <| .c rfl <| .n _) (.c rfl <| .c rfl <| .n _) : VC _ _ ⟨[(0, .sc (.func (.yield l) #[] #[])), (3, .sc (Value.pointer none)), (4, .ptr 3 0), (5, .sc (.bool y_18.2))], [(3, ⟨28, false, [.sc (.int .i64 y_18.1.Key), .sc (.int .i64 y_18.1.Tag)]⟩), (1, ⟨25, false, [.sc (Value.pointer none)]⟩)]⟩)) (VC.trans (VC.retag (t := 3) (t' := 2) (by decide) (nohas rfl) (nm rfl) (nm rfl)) (VC.sub (.c rfl <| .c rfl <| .c rfl <| .c rfl <| .n _) (.c rfl <| .c rfl <| .n _))))
    · have h := iteF hc h
      refine AWPF.exit ?_
      exact endJF () h (fun d_ => VC.sub (.n _) (.c rfl <| .n _))
theorem c15 {β1 : Bool} (n : Nat) (a1 : (List R27)) {r : (List R27)} (h : m15 n a1 = some r) : Spec Try.prog 15 [] [.sc Value.nilFunc, .rd β1 a1.length (a1.flatMap encR27)] [] (.rd false r.length (r.flatMap encR27)) [] := by
  refine Spec.ofR (fun r : (List R27) => .rd false r.length (r.flatMap encR27)) (fun r : (List R27) => []) (rr := r) (fn := Try.f15) Try.func15 Try.ntmps15 rfl rfl (le1 rfl) (fun w0 Zs Zb T0 ι0 => ?_)
  unfold m15 at h
  refine AWPF.seq ?_
  refine AWPF.of fun d_ => AWP.region (.cons (.assign (lt1 rfl) (.const _ _ _)) <| ARun.nil _ _ _) ?_
  refine AWPF.vc (s' := ⟨[(0, .sc Value.nilFunc), (1, .rd β1 a1.length (a1.flatMap encR27))], []⟩) (fun d_ => VC.sub (.c rfl <| .c rfl <| .n _) (.n _)) ?_
  refine AWPF.seq ?_
  refine AWPF.of fun d_ => AWP.region (.cons (.alloc (t := 1) (k := ⟨22, false, [.sc (.slice none 0 0)]⟩) (lt1 rfl) (nm rfl) zero22 rfl rfl) <| ARun.nil _ _ _) ?_
  refine AWPF.vc (s' := ⟨[(0, .sc Value.nilFunc), (1, .rd β1 a1.length (a1.flatMap encR27)), (5, .ptr 1 0)], [(1, ⟨22, false, [.sc (.slice none 0 0)]⟩)]⟩) (fun d_ => VC.sub (.c rfl <| .c rfl <| .c rfl <| .n _) (.c rfl <| .n _)) ?_
  refine AWPF.seq ?_
  refine AWPF.seq ?_
  obtain ⟨y_1, hy_1, h⟩ := bindS h
  obtain ⟨y_2, hy_2, h⟩ := bindS h
  refine AWPF.of fun d_ => AWP.region (.cons (.move (lt1 rfl) (.tmp rfl)) <| .cons (.move (lt1 rfl) (.tmp rfl)) <| .cons (.call0 (bw := false) (lt1 rfl) (c12 (β1 := β1) n a1 hy_1) (.cons (.tmp rfl) (.ren rfl) (.cons (.tmp rfl) (.ren rfl) (.nil))) rfl) <| .cons (.call (σ := fun _ => 2) (bw := false) (lt1 rfl) (c20 n hy_2) (.cons (.tmp rfl) (.ren rfl) (.nil)) (CallOk.mk' (.n) rfl)) <| ARun.nil _ _ _) ?_
  refine AWPF.vc (s' := ⟨[(5, .ptr 1 0), (10, .clo (.func 33) [] [.ptr 2 0])], [(2, ⟨25, false, [.sc (Value.pointer none)]⟩), (1, ⟨22, false, [.sc (.slice none 0 0)]⟩)]⟩) (fun d_ => VC.sub (.c rfl <| .c rfl <| .n _) (.c rfl <| .c rfl <| .n _)) ?_
  refine AWPF.block ?_
  refine AWPF.vc (fun d_ => VC.trans (VC.newTag (t := 3) (E := 28) (nm rfl)) (VC.cell (t := 1) (i := 0) (v' := .own 3 2 0 0) rfl rfl rfl (fun _ _ _ _ h => nil_own h))) ?_
  obtain ⟨y_3, hy_3, h⟩ := bindS h
  refine AWPF.rangeG (σ := fun _ => 2) (Hp := fun x_9 : (List R27) => [(1, ⟨22, false, [.own 3 2 0 x_9.length]⟩), (3, ⟨28, true, x_9.flatMap encR27⟩)]) (Hb := fun (e_4 : R27) (x_9 : (List R27)) => [(4, ⟨28, false, [.sc (.int .i64 e_4.Key), .sc (.int .i64 e_4.Tag)]⟩), (1, ⟨22, false, [.own 3 2 0 x_9.length]⟩), (3, ⟨28, true, x_9.flatMap encR27⟩)]) (env := [(5, .ptr 1 0)]) (x0 := ([] : List R27)) (KB := [1]) (envb := fun (e_4 : R27) (x_9 : (List R27)) => [(5, .ptr 1 0), (6, .ptr 4 0)]) (M := fun _ _ => False) (i33 n hy_3) (fun d_ => .tmp rfl) (fun d_ => .cons (.ren rfl) (.nil)) (.c rfl (.n)) rfl (.c rfl <| .c rfl <| .n _) (.c rfl <| .n _) rfl h (fun l => ⟨by decide, fun _ => rfl, ?_, ?_⟩) (fun p_12 h => ?_) (fun _ _ h => h.elim)
  · intro w0 Zs Zb T0 ι0 x_9 e_4
    refine AWP.vc (s' := ⟨[(5, .ptr 1 0), (11, .agg [.sc (.int .i64 e_4.Key), .sc (.int .i64 e_4.Tag)])], [(1, ⟨22, false, [.own 3 2 0 x_9.length]⟩), (3, ⟨28, true, x_9.flatMap encR27⟩)]⟩) (VC.sub (.c rfl <| .c rfl <| .n _) (.c rfl <| .c rfl <| .n _)) ?_
    refine AWP.region (.cons (.alloc (t := 4) (k := ⟨28, false, [.sc (.int .i64 (0 : Int)), .sc (.int .i64 (0 : Int))]⟩) (lt1 rfl) (nm rfl) zero28 rfl rfl) <| .cons (.storePA (.tmp rfl) (.tmp rfl) sz28 rfl rfl (le1 rfl) (one_lit rfl) (by intro h; cases h) rfl) <| ARun.nil _ _ _) ?_
    exact ⟨rfl, VC.sub (.c rfl <| .c rfl <| .n _) (.c rfl <| .c rfl <| .c rfl <| .n _)⟩
  · intro w0 Zs Zb T0 ι0 nx_10 x_9 e_4 h
    unfold m15_R1 at h
    refine AWP.block ?_
    obtain ⟨l3_11, hl3_11, h⟩ := bindS h
    refine AWP.region (.cons (.loadP (lt1 rfl) (.tmp rfl) one22 rfl rfl rfl) <| .cons (.loadPA (lt1 rfl) (.tmp rfl) agg28 rfl rfl rfl rfl) <| .cons (.buildSlice (t := 5) (out := ([(R27.mk e_4.Key e_4.Tag)] : List R27).flatMap encR27) (lt1 rfl) (nm rfl) (.cons (.tmp rfl) (by first | exact ⟨rfl, rfl⟩ | rfl) (.nil)) Try.underlying22 zero28 el28 (by decide) (by decide) rfl (still_all encR27_still _)) <| .cons (.app (enc := encR27) (lt1 rfl) (nm rfl) (.tmp rfl) (Src.own (.tmp rfl) rfl (lendAll encR27_len _) (flatMap_length encR27_len _) (one_all encR27_one _) (.inl rfl)) Try.underlying22 ⟨_, Try.underlying22, by intro k hk; cases hk⟩ el28 rfl encR27_len rfl rfl (by decide) hl3_11) <| .cons (.storeP (.tmp rfl) (.tmp rfl) sz22 rfl (lt1 rfl) rfl (by intro h; cases h) rfl) <| ARun.nil _ _ _) ?_
    exact ⟨l3_11, VC.sub (.n _) (.c rfl <| .c rfl <| .n _), .inl ⟨rfl, h⟩⟩
  · refine AWPF.seq ?_
    refine AWPF.of fun d_ => AWP.region (.cons (.loadP (lt1 rfl) (.tmp rfl) one22 rfl rfl rfl) <| .cons (.assign (lt1 rfl) (.tmp rfl)) <| ARun.nil _ _ _) ?_
    refine AWPF.ret ?_
    obtain rfl := Option.some.inj h
    refine ⟨.inl rfl, _, rfl, fun w0 Zs Zb T0 ι0 => (Res.vc (s' := ⟨[(4, .rd false p_12.length (p_12.flatMap encR27))], []⟩) (VC.trans (VC.frz (d := 4) (t := 3) rfl rfl encR27_len) (VC.sub (.c rfl <| .n _) (.n _))) ?_)⟩
    refine Res.drop (H := []) rfl ?_
    exact Res.of rfl (.cons (.tmp rfl) (.nil)) rfl rfl
theorem c29 (n : Nat) {r : (R27 × Bool)} (h : m29 n = some r) : Spec Try.prog 29 [] [.sc (Value.pointer none)] [] (.tup [.agg [.sc (.int .i64 r.1.Key), .sc (.int .i64 r.1.Tag)], .sc (.bool r.2)]) [] := by
  refine Spec.of (fn := Try.f29) Try.func29 Try.ntmps29 rfl rfl (le1 rfl) (fun w0 Zs Zb T0 ι0 => ?_)
  unfold m29 at h
  refine AWP.seq ?_
  refine AWP.region (.cons (.alloc (t := 1) (k := ⟨28, false, [.sc (.int .i64 (0 : Int)), .sc (.int .i64 (0 : Int))]⟩) (lt1 rfl) (nm rfl) zero28 rfl rfl) <| .cons (.assign (lt1 rfl) (.const _ _ _)) <| ARun.nil _ _ _) ?_
  refine AWP.vc (s' := ⟨[(0, .sc (Value.pointer none)), (2, .ptr 1 0)], [(1, ⟨28, false, [.sc (.int .i64 (0 : Int)), .sc (.int .i64 (0 : Int))]⟩)]⟩) (VC.sub (.c rfl <| .c rfl <| .n _) (.c rfl <| .n _)) ?_
  refine AWP.seq ?_
  refine AWP.seq ?_
  obtain ⟨y_1, hy_1, h⟩ := bindS h
  obtain rfl : (0 : Int) = y_1 := Option.some.inj hy_1
  refine AWP.region (.cons (.move (lt1 rfl) (.tmp rfl)) <| .cons (.call0 (bw := false) (lt1 rfl) (c16 n hy_1) (.cons (.tmp rfl) (.ren rfl) (.nil)) rfl) <| .cons (.eql (lt1 rfl) (.tmp rfl) (.const _ _ _)) <| ARun.nil _ _ _) ?_
  refine AWP.vc (s' := ⟨[(0, .sc (Value.pointer none)), (2, .ptr 1 0), (6, .sc (.bool true))], [(1, ⟨28, false, [.sc (.int .i64 (0 : Int)), .sc (.int .i64 (0 : Int))]⟩)]⟩) (VC.sub (.c rfl <| .c rfl <| .c rfl <| .n _) (.c rfl <| .n _)) ?_
  refine AWP.cond (.tmp rfl) (fun _ => ?_) (fun hc => by cases hc)
  refine AWP.seq ?_
  refine AWP.region (.cons (.loadPA (lt1 rfl) (.tmp rfl) agg28 rfl rfl rfl rfl) <| .cons (.storePA (.tmp rfl) (.tmp rfl) sz28 rfl rfl (le1 rfl) (one_lit rfl) (by intro h; cases h) rfl) <| .cons (.assign (lt1 rfl) (.const _ _ _)) <| ARun.nil _ _ _) ?_
  refine AWP.ret ?_
  obtain rfl := Option.some.inj h
  refine retJ (Res.vc (s' := ⟨[(2, .ptr 1 0), (3, .sc (.bool false))], [(1, ⟨28, false, [.sc (.int .i64 (0 : Int)), .sc (.int .i64 (0 : Int))]⟩)]⟩) (VC.sub (.c rfl <| .c rfl <| .n _) (.c rfl <| .n _)) ?_)
  refine Res.drop (H := [(1, ⟨28, false, [.sc (.int .i64 (0 : Int)), .sc (.int .i64 (0 : Int))]⟩)]) rfl ?_
  exact Res.of rfl (.cons (.cell rfl agg28 rfl rfl rfl rfl) (.cons (.tmp rfl) (.nil))) rfl rfl
theorem c9 {β1 : Bool} (n : Nat) (a0 : (List R27)) {r : Bool} (h : m9 n a0 = some r) : Spec Try.prog 9 [] [.rd β1 a0.length (a0.flatMap encR27)] [] (.sc (.bool r)) [] := by
  refine Spec.ofR (fun r : Bool => .sc (.bool r)) (fun r : Bool => []) (rr := r) (fn := Try.f9) Try.func9 Try.ntmps9 rfl rfl (le1 rfl) (fun w0 Zs Zb T0 ι0 => ?_)
  unfold m9 at h
  refine AWPF.seq ?_
  refine AWPF.of fun d_ => AWP.region (.cons (.assign (lt1 rfl) (.const _ _ _)) <| ARun.nil _ _ _) ?_
  refine AWPF.vc (s' := ⟨[(0, .rd β1 a0.length (a0.flatMap encR27))], []⟩) (fun d_ => VC.sub (.c rfl <| .n _) (.n _)) ?_
  refine AWPF.seq ?_
  refine AWPF.seq ?_
  obtain ⟨y_1, hy_1, h⟩ := bindS h
  refine AWPF.of fun d_ => AWP.region (.cons (.call0 (bw := false) (lt1 rfl) (c10 n hy_1) (.nil) rfl) <| .cons (.not (lt1 rfl) (.tmp rfl)) <| ARun.nil _ _ _) ?_
  refine AWPF.vc (s' := ⟨[(0, .rd β1 a0.length (a0.flatMap encR27)), (11, .sc (.bool (!y_1)))], []⟩) (fun d_ => VC.sub (.c rfl <| .c rfl <| .n _) (.n _)) ?_
  refine AWPF.cond (fun d_ => .tmp rfl) (fun hc => ?_) (fun hc => ?_)
  · have h := iteT hc h
    refine AWPF.seq ?_
    refine AWPF.of fun d_ => AWP.region (.cons (.assign (lt1 rfl) (.const _ _ _)) <| ARun.nil _ _ _) ?_
    refine AWPF.ret ?_
    obtain rfl := Option.some.inj h
    refine ⟨.inl rfl, _, rfl, fun w0 Zs Zb T0 ι0 => (Res.vc (s' := ⟨[(2, .sc (.bool false))], []⟩) (VC.sub (.c rfl <| .n _) (.n _)) ?_)⟩
    refine Res.drop (H := []) rfl ?_
    exact Res.of rfl (.cons (.tmp rfl) (.nil)) rfl rfl
  · have h := iteF hc h
    refine AWPF.skip ?_
    refine AWPF.seq ?_
    refine AWPF.seq ?_
    refine AWPF.of fun d_ => AWP.region (.cons (.move (lt1 rfl) (.tmp rfl)) <| .cons (.lenRd (lt1 rfl) (.tmp rfl) Try.underlying22) <| .cons (.gtr (lt1 rfl) (.tmp rfl) (.const _ _ _)) <| ARun.nil _ _ _) ?_
    refine AWPF.vc (s' := ⟨[(0, .rd β1 a0.length (a0.flatMap encR27)), (14, .sc (.bool (decide ((100 : Int) < (a0.length : Int)))))], []⟩) (fun d_ => VC.sub (.c rfl <| .c rfl <| .n _) (.n _)) ?_
    refine AWPF.cond (fun d_ => .tmp rfl) (fun hc => ?_) (fun hc => ?_)
    · have h := iteT hc h
      refine AWPF.seq ?_
      refine AWPF.of fun d_ => AWP.region (.cons (.assign (lt1 rfl) (.const _ _ _)) <| ARun.nil _ _ _) ?_
      refine AWPF.ret ?_
      obtain rfl := Option.some.inj h
      refine ⟨.inl rfl, _, rfl, fun w0 Zs Zb T0 ι0 => (Res.vc (s' := ⟨[(2, .sc (.bool true))], []⟩) (VC.sub (.c rfl <| .n _) (.n _)) ?_)⟩
      refine Res.drop (H := []) rfl ?_
      exact Res.of rfl (.cons (.tmp rfl) (.nil)) rfl rfl
    · have h := iteF hc h
      refine AWPF.skip ?_
      refine AWPF.seq ?_
      obtain ⟨y_2, hy_2, h⟩ := bindS h
      refine AWPF.of fun d_ => AWP.region (.cons (.move (lt1 rfl) (.tmp rfl)) <| .cons (.call0 (bw := false) (lt1 rfl) (c12 (β1 := β1) n a0 hy_2) (.cons (.const _ _ _) (.ren rfl) (.cons (.tmp rfl) (.ren rfl) (.nil))) rfl) <| .cons (.assign (lt1 rfl) (.tmp rfl)) <| ARun.nil _ _ _) ?_
      refine AWPF.vc (s' := ⟨[(0, .rd β1 a0.length (a0.flatMap encR27)), (3, .sc (Value.pointer none))], []⟩) (fun d_ => VC.sub (.c rfl <| .c rfl <| .n _) (.n _)) ?_
      refine AWPF.seq ?_
      obtain ⟨y_3, hy_3, h⟩ := bindS h
      obtain rfl : () = y_3 := Option.some.inj hy_3
      refine AWPF.of fun d_ => AWP.region (.cons (.call0 (bw := false) (lt1 rfl) (c18x1 n hy_3) (.cons (.const _ _ _) (.ren rfl) (.nil)) rfl) <| .cons (.assign (lt1 rfl) (.tmp rfl)) <| ARun.nil _ _ _) ?_
      refine AWPF.vc (s' := ⟨[(0, .rd β1 a0.length (a0.flatMap encR27)), (3, .sc (Value.pointer none)), (4, .sc (Value.pointer none))], []⟩) (fun d_ => VC.sub (.c rfl <| .c rfl <| .c rfl <| .n _) (.n _)) ?_
      refine AWPF.seq ?_
      refine AWPF.seq ?_
      obtain ⟨y_4, hy_4, h⟩ := bindS h
      refine AWPF.of fun d_ => AWP.region (.cons (.move (lt1 rfl) (.tmp rfl)) <| .cons (.nilNil1 (lt1 rfl) (.tmp rfl) Try.underlying25) <| .cons (.move (lt1 rfl) (.tmp rfl)) <| .guardT (j := 2) (dj := 20) rfl (lt1 rfl) rfl rfl (.move (lt1 rfl) (.tmp rfl)) <| .guardT (j := 2) (dj := 20) rfl (lt1 rfl) rfl rfl (.nilNil1 (lt1 rfl) (.tmp rfl) Try.underlying25) <| .cons (.pickF (lt1 rfl) (.tmp rfl) rfl (.tmp rfl)) <| .cons (.move (lt1 rfl) (.tmp rfl)) <| .guardT (j := 6) (dj := 24) rfl (lt1 rfl) rfl rfl (.move (lt1 rfl) (.tmp rfl)) <| .guardT (j := 6) (dj := 24) rfl (lt1 rfl) rfl rfl (.call0 (bw := false) (lt1 rfl) (c15 (β1 := β1) n a0 hy_4) (.cons (.const _ _ _) (.ren rfl) (.cons (.tmp rfl) (.ren rfl) (.nil))) rfl) <| .guardT (j := 6) (dj := 24) rfl (lt1 rfl) rfl rfl (.lenRd (lt1 rfl) (.tmp rfl) Try.underlying22) <| .guardT (j := 6) (dj := 24) rfl (lt1 rfl) rfl rfl (.neq (lt1 rfl) (.tmp rfl) (.const _ _ _)) <| .cons (.pickF (lt1 rfl) (.tmp rfl) rfl (.tmp rfl)) <| ARun.nil _ _ _) ?_
      refine AWPF.vc (s' := ⟨[(3, .sc (Value.pointer none)), (29, .sc (.bool (!decide ((y_4.length : Int) = (0 : Int)))))], []⟩) (fun d_ => VC.sub (.c rfl <| .c rfl <| .n _) (.n _)) ?_
      refine AWPF.cond (fun d_ => .tmp rfl) (fun hc => ?_) (fun hc => ?_)
      · have h := iteT hc h
        refine AWPF.seq ?_
        refine AWPF.of fun d_ => AWP.region (.cons (.assign (lt1 rfl) (.const _ _ _)) <| ARun.nil _ _ _) ?_
        refine AWPF.ret ?_
        obtain rfl := Option.some.inj h
        refine ⟨.inl rfl, _, rfl, fun w0 Zs Zb T0 ι0 => (Res.vc (s' := ⟨[(2, .sc (.bool false))], []⟩) (VC.sub (.c rfl <| .n _) (.n _)) ?_)⟩
        refine Res.drop (H := []) rfl ?_
        exact Res.of rfl (.cons (.tmp rfl) (.nil)) rfl rfl
      · have h := iteF hc h
        refine AWPF.skip ?_
        refine AWPF.seq ?_
        obtain ⟨y_5, hy_5, h⟩ := bindS h
        refine AWPF.of fun d_ => AWP.region (.cons (.move (lt1 rfl) (.tmp rfl)) <| .cons (.buildO (offs := [(0, 1), (1, 1)]) (lt1 rfl) (.cons (.const _ _ _) (by first | exact ⟨rfl, rfl⟩ | rfl) (.nil)) zero28 offs28 rfl) <| .cons (.call0 (bw := false) (lt1 rfl) (c19 n (R27.mk (1 : Int) (0 : Int)) hy_5) (.cons (.tmp rfl) (.ren rfl) (.cons (.tmp rfl) (.ren rfl) (.nil))) rfl) <| ARun.nil _ _ _) ?_
        refine AWPF.vc (s' := ⟨[(3, .sc (Value.pointer none))], []⟩) (fun d_ => VC.sub (.c rfl <| .n _) (.n _)) ?_
        refine AWPF.seq ?_
        obtain ⟨y_6, hy_6, h⟩ := bindS h
        refine AWPF.of fun d_ => AWP.region (.cons (.move (lt1 rfl) (.tmp rfl)) <| .cons (.call0 (bw := false) (lt1 rfl) (c21 n hy_6) (.cons (.tmp rfl) (.ren rfl) (.nil)) rfl) <| .cons (.move (lt1 rfl) (.tmp rfl)) <| .cons (.extract (lt1 rfl) (.tmp rfl) rfl) <| .cons (.extract (lt1 rfl) (.tmp rfl) rfl) <| .cons (.alloc (t := 1) (k := ⟨28, false, [.sc (.int .i64 (0 : Int)), .sc (.int .i64 (0 : Int))]⟩) (lt1 rfl) (nm rfl) zero28 rfl rfl) <| .cons (.storePA (.tmp rfl) (.tmp rfl) sz28 rfl rfl (le1 rfl) (one_lit rfl) (by intro h; cases h) rfl) <| .cons (.assign (lt1 rfl) (.tmp rfl)) <| ARun.nil _ _ _) ?_
        refine AWPF.vc (s' := ⟨[(3, .sc (Value.pointer none)), (5, .ptr 1 0), (6, .sc (.bool y_6.2))], [(1, ⟨28, false, [.sc (.int .i64 y_6.1.Key), .sc (.int .i64 y_6.1.Tag)]⟩)]⟩) (fun d_ => VC.sub (.c rfl <| .c rfl <| .c rfl <| .n _) (.c rfl <| .n _)) ?_
        refine AWPF.seq ?_
        obtain ⟨y_7, hy_7, h⟩ := bindS h
        refine AWPF.of fun d_ => AWP.region (.cons (.move (lt1 rfl) (.tmp rfl)) <| .cons (.call0 (bw := false) (lt1 rfl) (c29 n hy_7) (.cons (.tmp rfl) (.ren rfl) (.nil)) rfl) <| .cons (.move (lt1 rfl) (.tmp rfl)) <| .cons (.extract (lt1 rfl) (.tmp rfl) rfl) <| .cons (.extract (lt1 rfl) (.tmp rfl) rfl) <| .cons (.alloc (t := 2) (k := ⟨28, false, [.sc (.int .i64 (0 : Int)), .sc (.int .i64 (0 : Int))]⟩) (lt1 rfl) (nm rfl) zero28 rfl rfl) <| .cons (.storePA (.tmp rfl) (.tmp rfl) sz28 rfl rfl (le1 rfl) (one_lit rfl) (by intro h; cases h) rfl) <| .cons (.assign (lt1 rfl) (.tmp rfl)) <| ARun.nil _ _ _) ?_
        refine AWPF.vc (s' := ⟨[(3, .sc (Value.pointer none)), (5, .ptr 1 0), (6, .sc (.bool y_6.2)), (7, .ptr 2 0), (8, .sc (.bool y_7.2))], [(2, ⟨28, false, [.sc (.int .i64 y_7.1.Key), .sc (.int .i64 y_7.1.Tag)]⟩), (1, ⟨28, false, [.sc (.int .i64 y_6.1.Key), .sc (.int .i64 y_6.1.Tag)]⟩)]⟩) (fun d_ => VC.sub (.c rfl <| .c rfl <| .c rfl <| .c rfl <| .c rfl <| .n _) (.c rfl <| .c rfl <| .n _)) ?_
        refine AWPF.seq ?_
        refine AWPF.of fun d_ => AWP.region (.cons (.alloc (t := 3) (k := ⟨3, false, [.sc (.int .i64 (0 : Int))]⟩) (lt1 rfl) (nm rfl) zero3 rfl rfl) <| .cons (.storeP (.tmp rfl) (.const _ _ _) sz3 rfl (lt1 rfl) rfl (by intro h; cases h) rfl) <| ARun.nil _ _ _) ?_
        refine AWPF.vc (s' := ⟨[(3, .sc (Value.pointer none)), (5, .ptr 1 0), (6, .sc (.bool y_6.2)), (7, .ptr 2 0), (8, .sc (.bool y_7.2)), (9, .ptr 3 0)], [(3, ⟨3, false, [.sc (.int .i64 (0 : Int))]⟩), (2, ⟨28, false, [.sc (.int .i64 y_7.1.Key), .sc (.int .i64 y_7.1.Tag)]⟩), (1, ⟨28, false, [.sc (.int .i64 y_6.1.Key), .sc (.int .i64 y_6.1.Tag)]⟩)]⟩) (fun d_ => VC.sub (.c rfl <| .c rfl <| .c rfl <| .c rfl <| .c rfl <| .c rfl <| .n _) (.c rfl <| .c rfl <| .c rfl <| .n _)) ?_
        refine AWPF.seq ?_
        refine AWPF.seq ?_
        obtain ⟨y_8, hy_8, h⟩ := bindS h
        refine AWPF.of fun d_ => AWP.region (.cons (.move (lt1 rfl) (.tmp rfl)) <| .cons (.call (σ := fun _ => 4) (bw := false) (lt1 rfl) (c20 n hy_8) (.cons (.tmp rfl) (.ren rfl) (.nil)) (CallOk.mk' (.n) rfl)) <| ARun.nil _ _ _) ?_
        refine AWPF.vc (s' := ⟨[(3, .sc (Value.pointer none)), (5, .ptr 1 0), (6, .sc (.bool y_6.2)), (7, .ptr 2 0), (8, .sc (.bool y_7.2)), (9, .ptr 3 0), (44, .clo (.func 33) [] [.ptr 4 0])], [(4, ⟨25, false, [.sc (Value.pointer none)]⟩), (3, ⟨3, false, [.sc (.int .i64 (0 : Int))]⟩), (2, ⟨28, false, [.sc (.int .i64 y_7.1.Key), .sc (.int .i64 y_7.1.Tag)]⟩), (1, ⟨28, false, [.sc (.int .i64 y_6.1.Key), .sc (.int .i64 y_6.1.Tag)]⟩)]⟩) (fun d_ => VC.sub (.c rfl <| .c rfl <| .c rfl <| .c rfl <| .c rfl <| .c rfl <| .c rfl <| .n _) (.c rfl <| .c rfl <| .c rfl <| .c rfl <| .n _)) ?_
        refine AWPF.block ?_
        obtain ⟨y_9, hy_9, h⟩ := bindS h
        refine AWPF.rangeG (σ := fun _ => 4) (Hp := fun x_15 : Int => [(1, ⟨28, false, [.sc (.int .i64 y_6.1.Key), .sc (.int .i64 y_6.1.Tag)]⟩), (2, ⟨28, false, [.sc (.int .i64 y_7.1.Key), .sc (.int .i64 y_7.1.Tag)]⟩), (3, ⟨3, false, [.sc (.int .i64 x_15)]⟩)]) (Hb := fun (e_10 : R27) (x_15 : Int) => [(1, ⟨28, false, [.sc (.int .i64 y_6.1.Key), .sc (.int .i64 y_6.1.Tag)]⟩), (2, ⟨28, false, [.sc (.int .i64 y_7.1.Key), .sc (.int .i64 y_7.1.Tag)]⟩), (3, ⟨3, false, [.sc (.int .i64 x_15)]⟩)]) (env := [(3, .sc (Value.pointer none)), (5, .ptr 1 0), (6, .sc (.bool y_6.2)), (7, .ptr 2 0), (8, .sc (.bool y_7.2)), (9, .ptr 3 0)]) (x0 := (0 : Int)) (KB := [1, 2, 3]) (envb := fun (e_10 : R27) (x_15 : Int) => [(3, .sc (Value.pointer none)), (5, .ptr 1 0), (6, .sc (.bool y_6.2)), (7, .ptr 2 0), (8, .sc (.bool y_7.2)), (9, .ptr 3 0)]) (M := fun _ _ => False) (i33 n hy_9) (fun d_ => .tmp rfl) (fun d_ => .cons (.ren rfl) (.nil)) (.c rfl (.n)) rfl (.c rfl <| .c rfl <| .c rfl <| .n _) (.c rfl <| .c rfl <| .c rfl <| .c rfl <| .c rfl <| .c rfl <| .n _) rfl h (fun l => ⟨by decide, fun _ => rfl, ?_, ?_⟩) (fun p_18 h => ?_) (fun _ _ h => h.elim)
        · intro w0 Zs Zb T0 ι0 x_15 e_10
          refine AWP.vc (s' := ⟨[(3, .sc (Value.pointer none)), (5, .ptr 1 0), (6, .sc (.bool y_6.2)), (7, .ptr 2 0), (8, .sc (.bool y_7.2)), (9, .ptr 3 0), (45, .agg [.sc (.int .i64 e_10.Key), .sc (.int .i64 e_10.Tag)])], [(1, ⟨28, false, [.sc (.int .i64 y_6.1.Key), .sc (.int .i64 y_6.1.Tag)]⟩), (2, ⟨28, false, [.sc (.int .i64 y_7.1.Key), .sc (.int .i64 y_7.1.Tag)]⟩), (3, ⟨3, false, [.sc (.int .i64 x_15)]⟩)]⟩) (VC.sub (.c rfl <| .c rfl <| .c rfl <| .c rfl <| .c rfl <| .c rfl <| .c rfl <| .n _) (.c rfl <| .c rfl <| .c rfl <| .n _)) ?_
          refine AWP.skip ?_
          exact ⟨rfl, VC.sub (.c rfl <| .c rfl <| .c rfl <| .c rfl <| .c rfl <| .c rfl <| .n _) (.c rfl <| .c rfl <| .c rfl <| .n _)⟩
        · intro w0 Zs Zb T0 ι0 nx_16 x_15 e_10 h
          unfold m9_R1 at h
          refine AWP.block ?_
          obtain ⟨c_17, hc_17, h⟩ := letS h
          refine AWP.region (.cons (.loadP (lt1 rfl) (.tmp rfl) one3 rfl rfl rfl) <| .cons (.add (lt1 rfl) (.tmp rfl) (.const _ _ _)) <| .cons (.storeP (.tmp rfl) (.tmp rfl) sz3 rfl (lt1 rfl) rfl (by intro h; cases h) rfl) <| ARun.nil _ _ _) ?_
          exact ⟨c_17, by subst hc_17; exact VC.sub (.n _) (.c rfl <| .c rfl <| .c rfl <| .n _), .inl ⟨rfl, h⟩⟩
        · refine AWPF.seq ?_
          obtain ⟨y_19, hy_19, h⟩ := bindS h
          obtain ⟨y_20, hy_20, h⟩ := bindS h
          obtain ⟨t2_21, ht2_21, h⟩ := letS h
          refine AWPF.of fun d_ => AWP.region (.cons (.move (lt1 rfl) (.tmp rfl)) <| .cons (.not (lt1 rfl) (.tmp rfl)) <| .cons (.move (lt1 rfl) (.tmp rfl)) <| .guard (j := 2) (dj := 50) rfl (lt1 rfl) rfl (lt1 rfl) (fun hg => .move (lt1 rfl) (.tmp rfl)) <| .guard (j := 2) (dj := 50) rfl (lt1 rfl) rfl (lt1 rfl) (fun hg => .not (lt1 rfl) (.gd hg (.tmp rfl))) <| .cons (.pickAnd (lt1 rfl) (.tmp rfl) (.tmp rfl) (.const _ _ _)) <| .cons (.move (lt1 rfl) (.tmp rfl)) <| .guard (j := 6) (dj := 54) rfl (lt1 rfl) rfl (lt1 rfl) (fun hg => .loadPA (lt1 rfl) (.tmp rfl) agg28 rfl rfl rfl rfl) <| .guard (j := 6) (dj := 54) rfl (lt1 rfl) rfl (lt1 rfl) (fun hg => .buildO (offs := [(0, 1), (1, 1)]) (lt1 rfl) (.nil) zero28 offs28 rfl) <| .guard (j := 6) (dj := 54) rfl (lt1 rfl) rfl (lt1 rfl) (fun hg => .strCmp0 (us := [y_6.1.Key, y_6.1.Tag]) (vs := [(0 : Int), (0 : Int)]) (lt1 rfl) (.gd hg (.tmp rfl)) (.gd hg (.tmp rfl)) Try.underlying28 (.cons _ _ _ (by decide) rfl Try.underlying3 (.cons _ _ _ (by decide) rfl Try.underlying3 (.nil _))) si28 gt28 rfl rfl) <| .cons (.pickAnd (lt1 rfl) (.tmp rfl) (.tmp rfl) (.const _ _ _)) <| .cons (.move (lt1 rfl) (.tmp rfl)) <| .guard (j := 11) (dj := 59) rfl (lt1 rfl) rfl (lt1 rfl) (fun hg => .loadPA (lt1 rfl) (.tmp rfl) agg28 rfl rfl rfl rfl) <| .guard (j := 11) (dj := 59) rfl (lt1 rfl) rfl (lt1 rfl) (fun hg => .buildO (offs := [(0, 1), (1, 1)]) (lt1 rfl) (.nil) zero28 offs28 rfl) <| .guard (j := 11) (dj := 59) rfl (lt1 rfl) rfl (lt1 rfl) (fun hg => .strCmp0 (us := [y_7.1.Key, y_7.1.Tag]) (vs := [(0 : Int), (0 : Int)]) (lt1 rfl) (.gd hg (.tmp rfl)) (.gd hg (.tmp rfl)) Try.underlying28 (.cons _ _ _ (by decide) rfl Try.underlying3 (.cons _ _ _ (by decide) rfl Try.underlying3 (.nil _))) si28 gt28 rfl rfl) <| .cons (.pickAnd (lt1 rfl) (.tmp rfl) (.tmp rfl) (.const _ _ _)) <| .cons (.move (lt1 rfl) (.tmp rfl)) <| .guard (j := 16) (dj := 64) rfl (lt1 rfl) rfl (lt1 rfl) (fun hg => .move (lt1 rfl) (.tmp rfl)) <| .guard (j := 16) (dj := 64) rfl (lt1 rfl) rfl (lt1 rfl) (fun hg => .call0 (bw := false) (lt1 rfl) (c16 n (gdB hy_19 hg)) (.cons (.gd hg (.tmp rfl)) (.ren rfl) (.nil)) rfl) <| .guard (j := 16) (dj := 64) rfl (lt1 rfl) rfl (lt1 rfl) (fun hg => .eql (lt1 rfl) (.gd hg (.tmp rfl)) (.const _ _ _)) <| .cons (.pickAnd (lt1 rfl) (.tmp rfl) (.tmp rfl) (.const _ _ _)) <| .cons (.move (lt1 rfl) (.tmp rfl)) <| .guard (j := 21) (dj := 69) rfl (lt1 rfl) rfl (lt1 rfl) (fun hg => .loadP (lt1 rfl) (.tmp rfl) one3 rfl rfl rfl) <| .guard (j := 21) (dj := 69) rfl (lt1 rfl) rfl (lt1 rfl) (fun hg => .eql (lt1 rfl) (.gd hg (.tmp rfl)) (.const _ _ _)) <| .cons (.pickAnd (lt1 rfl) (.tmp rfl) (.tmp rfl) (.const _ _ _)) <| .cons (.move (lt1 rfl) (.tmp rfl)) <| .guard (j := 25) (dj := 73) rfl (lt1 rfl) rfl (lt1 rfl) (fun hg => .move (lt1 rfl) (.tmp rfl)) <| .guard (j := 25) (dj := 73) rfl (lt1 rfl) rfl (lt1 rfl) (fun hg => .call0 (bw := false) (lt1 rfl) (c23 n (gdB hy_20 hg)) (.cons (.gd hg (.tmp rfl)) (.ren rfl) (.nil)) rfl) <| .guard (j := 25) (dj := 73) rfl (lt1 rfl) rfl (lt1 rfl) (fun hg => .nilNil0 (lt1 rfl) (.gd hg (.tmp rfl)) Try.underlying25) <| .cons (.pickAnd (lt1 rfl) (.tmp rfl) (.tmp rfl) (.const _ _ _)) <| .cons (.assign (lt1 rfl) (.tmp rfl)) <| ARun.nil _ _ _) ?_
          refine AWPF.ret ?_
          obtain rfl := Option.some.inj h
          refine ⟨.inl rfl, _, rfl, fun w0 Zs Zb T0 ι0 => (Res.vc (s' := ⟨[(2, .sc (.bool t2_21))], []⟩) (by subst ht2_21; exact VC.sub (.c rfl <| .n _) (.n _)) ?_)⟩
          refine Res.drop (H := []) rfl ?_
          exact Res.of rfl (.cons (.tmp rfl) (.nil)) rfl rfl
end Go.AB
