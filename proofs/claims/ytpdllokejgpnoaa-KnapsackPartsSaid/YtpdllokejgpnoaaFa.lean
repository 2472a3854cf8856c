import Derived.Test.YtpdllokejgpnoaaProg
import Derived.Test.YtpdllokejgpnoaaAb26
import Derived.KernelRfl
set_option linter.unusedVariables false
namespace Go.AB
open Go Go.Proofs
structure R27 where
  Size : Int
  Value : Int
  Most : Int
  deriving DecidableEq, Inhabited
def encR27 (y : R27) : List AV := [.sc (.int .i64 y.Size), .sc (.int .i64 y.Value), .sc (.int .i64 y.Most)]
theorem encR27_len (y : R27) : (encR27 y).length = 3 := rfl
theorem encR27_one (y : R27) : ∀ c, c ∈ encR27 y → c.one = true := by simp [encR27, AV.one]
theorem encR27_still (y : R27) : ∀ c, c ∈ encR27 y → c.still = true := by simp [encR27, AV.still]
theorem encR27_scal (y : R27) : ∀ c, c ∈ encR27 y → c.scal = true := by simp [encR27, AV.scal]
theorem sz28 : szOf Try.prog 28 3 := szOf.mk (by kernel_rfl)
theorem agg28 : aggT Try.prog 28 3 := ⟨sz28, _, Try.underlying28, trivial⟩
theorem sz3 : szOf Try.prog 3 1 := szOf.mk (by kernel_rfl)
theorem fld28_0 : fldOf Try.prog 28 0 0 := ⟨_, _, Try.underlying28, rfl, rfl, 0, sz3⟩
theorem one3 : oneT Try.prog 3 := ⟨_, Try.underlying3, trivial⟩
theorem fld28_1 : fldOf Try.prog 28 1 1 := ⟨_, _, Try.underlying28, rfl, rfl, 0, sz3⟩
theorem fld28_2 : fldOf Try.prog 28 2 2 := ⟨_, _, Try.underlying28, rfl, rfl, 0, sz3⟩
theorem sz36 : szOf Try.prog 36 3 := szOf.mk (by kernel_rfl)
theorem agg36 : aggT Try.prog 36 3 := ⟨sz36, _, Try.underlying36, trivial⟩
theorem zero36 : zeroT Try.prog 36 [.int .i64 0, .int .i64 0, .int .i64 0] := zeroT.mk (by kernel_rfl)
theorem fld36_0 : fldOf Try.prog 36 0 0 := ⟨_, _, Try.underlying36, rfl, rfl, 0, sz3⟩
theorem fld36_1 : fldOf Try.prog 36 1 1 := ⟨_, _, Try.underlying36, rfl, rfl, 0, sz3⟩
theorem fld36_2 : fldOf Try.prog 36 2 2 := ⟨_, _, Try.underlying36, rfl, rfl, 0, sz3⟩
theorem zero28 : zeroT Try.prog 28 [.int .i64 0, .int .i64 0, .int .i64 0] := zeroT.mk (by kernel_rfl)
theorem el28 : elT Try.prog 28 3 24 := elT.mk (by kernel_rfl)
theorem mixed : Try.prog.follows .mixedOrders = true := by kernel_rfl
def m29 (n : Nat) (a0 : R27) : Option Bool :=
  (letM (((((((decide (a0.Size < (1 : Int))) || (decide ((4000 : Int) < a0.Size))) || (decide (a0.Value < (0 : Int)))) || (decide ((1073741824 : Int) < a0.Value))) || (decide (a0.Most < (0 : Int)))) || (decide ((1000 : Int) < a0.Most)))) fun t2_1 => (some t2_1))
theorem c29 (n : Nat) (a0 : R27) {r : Bool} (h : m29 n a0 = some r) : Spec Try.prog 29 [] [.agg [.sc (.int .i64 a0.Size), .sc (.int .i64 a0.Value), .sc (.int .i64 a0.Most)]] [] (.sc (.bool r)) [] := by
  refine Spec.of (fn := Try.f29) Try.func29 Try.ntmps29 rfl rfl (le1 rfl) (fun w0 Zs Zb T0 ι0 => ?_)
  unfold m29 at h
  refine AWP.seq ?_
  refine AWP.region (.cons (.box (t := 1) (n := 3) (lt1 rfl) (nm rfl) (.tmp rfl) (by first | exact ⟨rfl, rfl⟩ | rfl) rfl) <| .cons (.assign (lt1 rfl) (.const _ _ _)) <| ARun.nil _ _ _) ?_
  refine AWP.vc (s' := ⟨[(1, .ptr 1 0)], [(1, ⟨28, false, [.sc (.int .i64 a0.Size), .sc (.int .i64 a0.Value), .sc (.int .i64 a0.Most)]⟩)]⟩) (VC.sub (.c rfl <| .n _) (.c rfl <| .n _)) ?_
  refine AWP.seq ?_
  obtain ⟨t2_1, ht2_1, h⟩ := letS h
  refine AWP.region (.cons (.fieldP (lt1 rfl) (.tmp rfl) fld28_0) <| .cons (.loadP (lt1 rfl) (.tmp rfl) one3 rfl rfl rfl) <| .cons (.lss (lt1 rfl) (.tmp rfl) (.const _ _ _)) <| .cons (.move (lt1 rfl) (.tmp rfl)) <| .guard (j := 3) (dj := 6) rfl (lt1 rfl) rfl (lt1 rfl) (fun hg => .fieldP (lt1 rfl) (.tmp rfl) fld28_0) <| .guard (j := 3) (dj := 6) rfl (lt1 rfl) rfl (lt1 rfl) (fun hg => .loadP (lt1 rfl) (.gd hg (.tmp rfl)) one3 rfl rfl rfl) <| .guard (j := 3) (dj := 6) rfl (lt1 rfl) rfl (lt1 rfl) (fun hg => .gtr (lt1 rfl) (.gd hg (.tmp rfl)) (.const _ _ _)) <| .cons (.pickOr (lt1 rfl) (.tmp rfl) (.const _ _ _) (.tmp rfl)) <| .cons (.move (lt1 rfl) (.tmp rfl)) <| .guard (j := 8) (dj := 11) rfl (lt1 rfl) rfl (lt1 rfl) (fun hg => .fieldP (lt1 rfl) (.tmp rfl) fld28_1) <| .guard (j := 8) (dj := 11) rfl (lt1 rfl) rfl (lt1 rfl) (fun hg => .loadP (lt1 rfl) (.gd hg (.tmp rfl)) one3 rfl rfl rfl) <| .guard (j := 8) (dj := 11) rfl (lt1 rfl) rfl (lt1 rfl) (fun hg => .lss (lt1 rfl) (.gd hg (.tmp rfl)) (.const _ _ _)) <| .cons (.pickOr (lt1 rfl) (.tmp rfl) (.const _ _ _) (.tmp rfl)) <| .cons (.move (lt1 rfl) (.tmp rfl)) <| .guard (j := 13) (dj := 16) rfl (lt1 rfl) rfl (lt1 rfl) (fun hg => .fieldP (lt1 rfl) (.tmp rfl) fld28_1) <| .guard (j := 13) (dj := 16) rfl (lt1 rfl) rfl (lt1 rfl) (fun hg => .loadP (lt1 rfl) (.gd hg (.tmp rfl)) one3 rfl rfl rfl) <| .guard (j := 13) (dj := 16) rfl (lt1 rfl) rfl (lt1 rfl) (fun hg => .gtr (lt1 rfl) (.gd hg (.tmp rfl)) (.const _ _ _)) <| .cons (.pickOr (lt1 rfl) (.tmp rfl) (.const _ _ _) (.tmp rfl)) <| .cons (.move (lt1 rfl) (.tmp rfl)) <| .guard (j := 18) (dj := 21) rfl (lt1 rfl) rfl (lt1 rfl) (fun hg => .fieldP (lt1 rfl) (.tmp rfl) fld28_2) <| .guard (j := 18) (dj := 21) rfl (lt1 rfl) rfl (lt1 rfl) (fun hg => .loadP (lt1 rfl) (.gd hg (.tmp rfl)) one3 rfl rfl rfl) <| .guard (j := 18) (dj := 21) rfl (lt1 rfl) rfl (lt1 rfl) (fun hg => .lss (lt1 rfl) (.gd hg (.tmp rfl)) (.const _ _ _)) <| .cons (.pickOr (lt1 rfl) (.tmp rfl) (.const _ _ _) (.tmp rfl)) <| .cons (.move (lt1 rfl) (.tmp rfl)) <| .guard (j := 23) (dj := 26) rfl (lt1 rfl) rfl (lt1 rfl) (fun hg => .fieldP (lt1 rfl) (.tmp rfl) fld28_2) <| .guard (j := 23) (dj := 26) rfl (lt1 rfl) rfl (lt1 rfl) (fun hg => .loadP (lt1 rfl) (.gd hg (.tmp rfl)) one3 rfl rfl rfl) <| .guard (j := 23) (dj := 26) rfl (lt1 rfl) rfl (lt1 rfl) (fun hg => .gtr (lt1 rfl) (.gd hg (.tmp rfl)) (.const _ _ _)) <| .cons (.pickOr (lt1 rfl) (.tmp rfl) (.const _ _ _) (.tmp rfl)) <| .cons (.assign (lt1 rfl) (.tmp rfl)) <| ARun.nil _ _ _) ?_
  refine AWP.ret ?_
  obtain rfl := Option.some.inj h
  exact retJ (Res.vc (s' := ⟨[(2, .sc (.bool t2_1))], []⟩) (by subst ht2_1; exact VC.sub (.c rfl <| .n _) (.n _)) (Res.drop rfl (Res.of rfl (.cons (.tmp rfl) (.nil)) rfl rfl)))
def m38_L1 (n : Nat) (a0 : (List R27)) (k_15 : Unit → Option Int) (nx_10 : Int → Option Int) (x_9 : Int) : Option Int :=
  (if (decide (x_9 < (a0.length : Int))) = true then ((getIdx a0 x_9).bind fun y_11 => ((m29 n (R27.mk y_11.Size y_11.Value y_11.Most)).bind fun y_12 => (if y_12 = true then (some x_9) else (letM ((IntKind.wrap .i64 (x_9 + (1 : Int)))) fun t8_13 => (nx_10 t8_13))))) else (k_15 ()))
def m38 (n : Nat) (a0 : (List R27)) : Option Int :=
  (jn (fun p_14 : Unit => (some (-1 : Int))) fun k_15 => (loopM (m38_L1 n a0 k_15) n (0 : Int)))
theorem c38 {β1 : Bool} (n : Nat) (a0 : (List R27)) {r : Int} (h : m38 n a0 = some r) : Spec Try.prog 38 [] [.rd β1 a0.length (a0.flatMap encR27), .clo (.func 29) [] []] [] (.sc (.int .i64 r)) [] := by
  refine Spec.of (fn := Try.f38) Try.func38 Try.ntmps38 rfl rfl (le1 rfl) (fun w0 Zs Zb T0 ι0 => ?_)
  unfold m38 at h
  refine AWP.seq ?_
  refine AWP.region (.cons (.assign (lt1 rfl) (.const _ _ _)) <| ARun.nil _ _ _) ?_
  refine AWP.vc (s' := ⟨[(0, .rd β1 a0.length (a0.flatMap encR27)), (1, .clo (.func 29) [] [])], []⟩) (VC.sub (.c rfl <| .c rfl <| .n _) (.n _)) ?_
  refine AWP.seq ?_
  refine AWP.seq ?_
  refine AWP.region (.cons (.move (lt1 rfl) (.tmp rfl)) <| .cons (.lenRd (lt1 rfl) (.tmp rfl) Try.underlying25) <| .cons (.move (lt1 rfl) (.const _ _ _)) <| ARun.nil _ _ _) ?_
  refine AWP.vc (s' := ⟨[(0, .rd β1 a0.length (a0.flatMap encR27)), (1, .clo (.func 29) [] []), (7, .sc (.int .i64 (a0.length : Int))), (8, .sc (.int .i64 (0 : Int)))], []⟩) (VC.sub (.c rfl <| .c rfl <| .c rfl <| .c rfl <| .n _) (.n _)) ?_
  refine AWP.joinB' (S := fun p_14 : Unit => ⟨[], []⟩) h (fun p_14 h => ?_) (fun k_15 h => ?_)
  · refine AWP.seq ?_
    refine AWP.region (.cons (.assign (lt1 rfl) (.const _ _ _)) <| ARun.nil _ _ _) ?_
    refine AWP.ret ?_
    obtain rfl := Option.some.inj h
    exact retJ (Res.vc (s' := ⟨[(4, .sc (.int .i64 (-1 : Int)))], []⟩) (VC.sub (.c rfl <| .n _) (.n _)) (Res.drop rfl (Res.of rfl (.cons (.tmp rfl) (.nil)) rfl rfl)))
  · refine AWP.vc (s' := ⟨[(0, .rd β1 a0.length (a0.flatMap encR27)), (1, .clo (.func 29) [] []), (7, .sc (.int .i64 (a0.length : Int))), (8, .sc (.int .i64 (0 : Int)))], []⟩) (VC.sub (.c rfl <| .c rfl <| .c rfl <| .c rfl <| .n _) (.n _)) ?_
    refine AWP.loopM (S := fun x_9 : Int => ⟨[(0, .rd β1 a0.length (a0.flatMap encR27)), (1, .clo (.func 29) [] []), (7, .sc (.int .i64 (a0.length : Int))), (8, .sc (.int .i64 x_9))], []⟩) (x := (0 : Int)) (fun nx_10 x_9 h => ?_) h
    unfold m38_L1 at h
    refine AWP.seq ?_
    refine AWP.region (.cons (.lss (lt1 rfl) (.tmp rfl) (.tmp rfl)) <| ARun.nil _ _ _) ?_
    refine AWP.vc (s' := ⟨[(0, .rd β1 a0.length (a0.flatMap encR27)), (1, .clo (.func 29) [] []), (7, .sc (.int .i64 (a0.length : Int))), (8, .sc (.int .i64 x_9)), (9, .sc (.bool (decide (x_9 < (a0.length : Int)))))], []⟩) (VC.sub (.c rfl <| .c rfl <| .c rfl <| .c rfl <| .c rfl <| .n _) (.n _)) ?_
    refine AWP.seq ?_
    refine AWP.cond (.tmp rfl) (fun hc => ?_) (fun hc => ?_)
    · have h := iteT hc h
      refine AWP.skip ?_
      refine AWP.seq ?_
      refine AWP.block ?_
      refine AWP.seq ?_
      refine AWP.region (.cons (.move (lt1 rfl) (.tmp rfl)) <| .cons (.assign (lt1 rfl) (.tmp rfl)) <| ARun.nil _ _ _) ?_
      refine AWP.vc (s' := ⟨[(0, .rd β1 a0.length (a0.flatMap encR27)), (1, .clo (.func 29) [] []), (7, .sc (.int .i64 (a0.length : Int))), (8, .sc (.int .i64 x_9)), (5, .sc (.int .i64 x_9))], []⟩) (VC.sub (.c rfl <| .c rfl <| .c rfl <| .c rfl <| .c rfl <| .n _) (.n _)) ?_
      refine AWP.seq ?_
      obtain ⟨y_11, hy_11, h⟩ := bindS h
      obtain ⟨y_12, hy_12, h⟩ := bindS h
      refine AWP.region (.cons (.move (lt1 rfl) (.tmp rfl)) <| .cons (.move (lt1 rfl) (.tmp rfl)) <| .cons (.move (lt1 rfl) (.tmp rfl)) <| .cons (.indexRd (enc := encR27) (lt1 rfl) (.tmp rfl) (.tmp rfl) Try.underlying25 sz28 encR27_len rfl hy_11) <| .cons (.loadRA (out := [.sc (.int .i64 y_11.Size), .sc (.int .i64 y_11.Value), .sc (.int .i64 y_11.Most)]) (lt1 rfl) (.tmp rfl) agg28 (Nat.le_of_eq (Eq.symm (encR27_len _))) rfl) <| .cons (.keep (bw := false) (AStep.callV (us' := []) (avs := [.agg [.sc (.int .i64 ((R27.mk y_11.Size y_11.Value y_11.Most).Size)), .sc (.int .i64 ((R27.mk y_11.Size y_11.Value y_11.Most).Value)), .sc (.int .i64 ((R27.mk y_11.Size y_11.Value y_11.Most).Most))]]) (cs' := []) (σ := sgT []) (bw := false) (lt1 rfl) (.tmp rfl) (c29 n (R27.mk y_11.Size y_11.Value y_11.Most) hy_12) (.nil) (.cons (.tmp rfl) (.ren rfl) (.nil)) (.nil) (CallOk.mk' (.n) rfl) (fun _ h => by cases h)) (CallOk.mk' (.n) rfl) rfl rfl) <| ARun.nil _ _ _) ?_
      refine AWP.vc (s' := ⟨[(0, .rd β1 a0.length (a0.flatMap encR27)), (1, .clo (.func 29) [] []), (7, .sc (.int .i64 (a0.length : Int))), (8, .sc (.int .i64 x_9)), (5, .sc (.int .i64 x_9)), (16, .sc (.bool y_12))], []⟩) (VC.sub (.c rfl <| .c rfl <| .c rfl <| .c rfl <| .c rfl <| .c rfl <| .n _) (.n _)) ?_
      refine AWP.cond (.tmp rfl) (fun hc => ?_) (fun hc => ?_)
      · have h := iteT hc h
        refine AWP.seq ?_
        refine AWP.region (.cons (.move (lt1 rfl) (.tmp rfl)) <| .cons (.assign (lt1 rfl) (.tmp rfl)) <| ARun.nil _ _ _) ?_
        refine AWP.ret ?_
        obtain rfl := Option.some.inj h
        exact retJ (Res.vc (s' := ⟨[(4, .sc (.int .i64 x_9))], []⟩) (VC.sub (.c rfl <| .n _) (.n _)) (Res.drop rfl (Res.of rfl (.cons (.tmp rfl) (.nil)) rfl rfl)))
      · have h := iteF hc h
        refine AWP.skip ?_
        obtain ⟨t8_13, ht8_13, h⟩ := letS h
        refine AWP.region (.cons (.add (lt1 rfl) (.tmp rfl) (.const _ _ _)) <| .cons (.move (lt1 rfl) (.tmp rfl)) <| ARun.nil _ _ _) ?_
        exact endJ t8_13 h (by subst ht8_13; exact VC.sub (.c rfl <| .c rfl <| .c rfl <| .c rfl <| .n _) (.n _))
    · have h := iteF hc h
      refine AWP.exit ?_
      exact endJ () h (VC.sub (.n _) (.n _))
def m30 (n : Nat) (a0 : (List R27)) : Option Bool :=
  ((m38 n a0).bind fun y_1 => (some (decide ((0 : Int) ≤ y_1))))
theorem c30 {β1 : Bool} (n : Nat) (a0 : (List R27)) {r : Bool} (h : m30 n a0 = some r) : Spec Try.prog 30 [] [.rd β1 a0.length (a0.flatMap encR27), .clo (.func 29) [] []] [] (.sc (.bool r)) [] := by
  refine Spec.of (fn := Try.f30) Try.func30 Try.ntmps30 rfl rfl (le1 rfl) (fun w0 Zs Zb T0 ι0 => ?_)
  unfold m30 at h
  refine AWP.seq ?_
  refine AWP.region (.cons (.assign (lt1 rfl) (.const _ _ _)) <| ARun.nil _ _ _) ?_
  refine AWP.vc (s' := ⟨[(0, .rd β1 a0.length (a0.flatMap encR27)), (1, .clo (.func 29) [] [])], []⟩) (VC.sub (.c rfl <| .c rfl <| .n _) (.n _)) ?_
  refine AWP.seq ?_
  obtain ⟨y_1, hy_1, h⟩ := bindS h
  refine AWP.region (.cons (.move (lt1 rfl) (.tmp rfl)) <| .cons (.move (lt1 rfl) (.tmp rfl)) <| .cons (.call0 (bw := false) (lt1 rfl) (c38 (β1 := β1) n a0 hy_1) (.cons (.tmp rfl) (.ren rfl) (.cons (.tmp rfl) (.ren rfl) (.nil))) rfl) <| .cons (.geq (lt1 rfl) (.tmp rfl) (.const _ _ _)) <| .cons (.assign (lt1 rfl) (.tmp rfl)) <| ARun.nil _ _ _) ?_
  refine AWP.ret ?_
  obtain rfl := Option.some.inj h
  exact retJ (Res.vc (s' := ⟨[(4, .sc (.bool (decide ((0 : Int) ≤ y_1))))], []⟩) (VC.sub (.c rfl <| .n _) (.n _)) (Res.drop rfl (Res.of rfl (.cons (.tmp rfl) (.nil)) rfl rfl)))
def m15 (n : Nat) (a0 : (List R27)) (a1 : Int) : Option Bool :=
  ((gdO (((decide ((a0.length : Int) ≤ (20 : Int))) && (decide ((0 : Int) ≤ a1))) && (decide (a1 ≤ (4000 : Int)))) (m30 n a0) default).bind fun y_1 => (some ((((decide ((a0.length : Int) ≤ (20 : Int))) && (decide ((0 : Int) ≤ a1))) && (decide (a1 ≤ (4000 : Int)))) && (!y_1))))
theorem c15 {β1 : Bool} (n : Nat) (a0 : (List R27)) (a1 : Int) {r : Bool} (h : m15 n a0 a1 = some r) : Spec Try.prog 15 [] [.rd β1 a0.length (a0.flatMap encR27), .sc (.int .i64 a1)] [] (.sc (.bool r)) [] := by
  refine Spec.of (fn := Try.f15) Try.func15 Try.ntmps15 rfl rfl (le1 rfl) (fun w0 Zs Zb T0 ι0 => ?_)
  unfold m15 at h
  refine AWP.seq ?_
  refine AWP.region (.cons (.assign (lt1 rfl) (.const _ _ _)) <| ARun.nil _ _ _) ?_
  refine AWP.vc (s' := ⟨[(0, .rd β1 a0.length (a0.flatMap encR27)), (1, .sc (.int .i64 a1))], []⟩) (VC.sub (.c rfl <| .c rfl <| .n _) (.n _)) ?_
  refine AWP.seq ?_
  refine AWP.region (.cons (.assign (lt1 rfl) (.func _ _ _)) <| ARun.nil _ _ _) ?_
  refine AWP.vc (s' := ⟨[(0, .rd β1 a0.length (a0.flatMap encR27)), (1, .sc (.int .i64 a1)), (5, .clo (.func 29) [] [])], []⟩) (VC.sub (.c rfl <| .c rfl <| .c rfl <| .n _) (.n _)) ?_
  refine AWP.seq ?_
  obtain ⟨y_1, hy_1, h⟩ := bindS h
  refine AWP.region (.cons (.move (lt1 rfl) (.tmp rfl)) <| .cons (.lenRd (lt1 rfl) (.tmp rfl) Try.underlying25) <| .cons (.leq (lt1 rfl) (.tmp rfl) (.const _ _ _)) <| .cons (.move (lt1 rfl) (.tmp rfl)) <| .guard (j := 3) (dj := 9) rfl (lt1 rfl) rfl (lt1 rfl) (fun hg => .move (lt1 rfl) (.tmp rfl)) <| .guard (j := 3) (dj := 9) rfl (lt1 rfl) rfl (lt1 rfl) (fun hg => .geq (lt1 rfl) (.gd hg (.tmp rfl)) (.const _ _ _)) <| .cons (.pickAnd (lt1 rfl) (.tmp rfl) (.tmp rfl) (.const _ _ _)) <| .cons (.move (lt1 rfl) (.tmp rfl)) <| .guard (j := 7) (dj := 13) rfl (lt1 rfl) rfl (lt1 rfl) (fun hg => .move (lt1 rfl) (.tmp rfl)) <| .guard (j := 7) (dj := 13) rfl (lt1 rfl) rfl (lt1 rfl) (fun hg => .leq (lt1 rfl) (.gd hg (.tmp rfl)) (.const _ _ _)) <| .cons (.pickAnd (lt1 rfl) (.tmp rfl) (.tmp rfl) (.const _ _ _)) <| .cons (.move (lt1 rfl) (.tmp rfl)) <| .guard (j := 11) (dj := 17) rfl (lt1 rfl) rfl (lt1 rfl) (fun hg => .move (lt1 rfl) (.tmp rfl)) <| .guard (j := 11) (dj := 17) rfl (lt1 rfl) rfl (lt1 rfl) (fun hg => .move (lt1 rfl) (.tmp rfl)) <| .guard (j := 11) (dj := 17) rfl (lt1 rfl) rfl (lt1 rfl) (fun hg => .call0 (bw := false) (lt1 rfl) (c30 (β1 := β1) n a0 (gdB hy_1 hg)) (.cons (.gd hg (.tmp rfl)) (.ren rfl) (.cons (.gd hg (.tmp rfl)) (.ren rfl) (.nil))) rfl) <| .guard (j := 11) (dj := 17) rfl (lt1 rfl) rfl (lt1 rfl) (fun hg => .not (lt1 rfl) (.gd hg (.tmp rfl))) <| .cons (.pickAnd (lt1 rfl) (.tmp rfl) (.tmp rfl) (.const _ _ _)) <| .cons (.assign (lt1 rfl) (.tmp rfl)) <| ARun.nil _ _ _) ?_
  refine AWP.ret ?_
  obtain rfl := Option.some.inj h
  exact retJ (Res.vc (s' := ⟨[(4, .sc (.bool ((((decide ((a0.length : Int) ≤ (20 : Int))) && (decide ((0 : Int) ≤ a1))) && (decide (a1 ≤ (4000 : Int)))) && (!y_1))))], []⟩) (VC.sub (.c rfl <| .n _) (.n _)) (Res.drop rfl (Res.of rfl (.cons (.tmp rfl) (.nil)) rfl rfl)))
def m13_L1 (n : Nat) (a0 : (List R27)) (k_15 : Unit → Option Bool) (nx_10 : Int → Option Bool) (x_9 : Int) : Option Bool :=
  (if (decide (x_9 < (a0.length : Int))) = true then ((getIdx a0 x_9).bind fun y_11 => (letM (((((((decide (y_11.Size < (1 : Int))) || (decide ((4000 : Int) < y_11.Size))) || (decide (y_11.Value < (0 : Int)))) || (decide ((1073741824 : Int) < y_11.Value))) || (decide (y_11.Most < (0 : Int)))) || (decide ((1000 : Int) < y_11.Most)))) fun t44_12 => (if t44_12 = true then (some false) else (letM ((IntKind.wrap .i64 (x_9 + (1 : Int)))) fun t5_13 => (nx_10 t5_13))))) else (k_15 ()))
def m13 (n : Nat) (a0 : (List R27)) (a1 : Int) : Option Bool :=
  (jn (fun p_14 : Unit => (some (((decide ((a0.length : Int) ≤ (20 : Int))) && (decide ((0 : Int) ≤ a1))) && (decide (a1 ≤ (4000 : Int)))))) fun k_15 => (loopM (m13_L1 n a0 k_15) n (0 : Int)))
theorem c13 {β1 : Bool} (n : Nat) (a0 : (List R27)) (a1 : Int) {r : Bool} (h : m13 n a0 a1 = some r) : Spec Try.prog 13 [] [.rd β1 a0.length (a0.flatMap encR27), .sc (.int .i64 a1)] [] (.sc (.bool r)) [] := by
  refine Spec.of (fn := Try.f13) Try.func13 Try.ntmps13 rfl rfl (le1 rfl) (fun w0 Zs Zb T0 ι0 => ?_)
  unfold m13 at h
  refine AWP.seq ?_
  refine AWP.region (.cons (.assign (lt1 rfl) (.const _ _ _)) <| ARun.nil _ _ _) ?_
  refine AWP.vc (s' := ⟨[(0, .rd β1 a0.length (a0.flatMap encR27)), (1, .sc (.int .i64 a1))], []⟩) (VC.sub (.c rfl <| .c rfl <| .n _) (.n _)) ?_
  refine AWP.seq ?_
  refine AWP.seq ?_
  refine AWP.region (.cons (.assign (lt1 rfl) (.const _ _ _)) <| ARun.nil _ _ _) ?_
  refine AWP.vc (s' := ⟨[(0, .rd β1 a0.length (a0.flatMap encR27)), (1, .sc (.int .i64 a1)), (5, .sc (.int .i64 (0 : Int)))], []⟩) (VC.sub (.c rfl <| .c rfl <| .c rfl <| .n _) (.n _)) ?_
  refine AWP.joinB' (S := fun p_14 : Unit => ⟨[(0, .rd β1 a0.length (a0.flatMap encR27)), (1, .sc (.int .i64 a1))], []⟩) h (fun p_14 h => ?_) (fun k_15 h => ?_)
  · refine AWP.seq ?_
    refine AWP.region (.cons (.move (lt1 rfl) (.tmp rfl)) <| .cons (.lenRd (lt1 rfl) (.tmp rfl) Try.underlying22) <| .cons (.leq (lt1 rfl) (.tmp rfl) (.const _ _ _)) <| .cons (.move (lt1 rfl) (.tmp rfl)) <| .guard (j := 3) (dj := 48) rfl (lt1 rfl) rfl (lt1 rfl) (fun hg => .move (lt1 rfl) (.tmp rfl)) <| .guard (j := 3) (dj := 48) rfl (lt1 rfl) rfl (lt1 rfl) (fun hg => .geq (lt1 rfl) (.gd hg (.tmp rfl)) (.const _ _ _)) <| .cons (.pickAnd (lt1 rfl) (.tmp rfl) (.tmp rfl) (.const _ _ _)) <| .cons (.move (lt1 rfl) (.tmp rfl)) <| .guard (j := 7) (dj := 52) rfl (lt1 rfl) rfl (lt1 rfl) (fun hg => .move (lt1 rfl) (.tmp rfl)) <| .guard (j := 7) (dj := 52) rfl (lt1 rfl) rfl (lt1 rfl) (fun hg => .leq (lt1 rfl) (.gd hg (.tmp rfl)) (.const _ _ _)) <| .cons (.pickAnd (lt1 rfl) (.tmp rfl) (.tmp rfl) (.const _ _ _)) <| .cons (.assign (lt1 rfl) (.tmp rfl)) <| ARun.nil _ _ _) ?_
    refine AWP.ret ?_
    obtain rfl := Option.some.inj h
    exact retJ (Res.vc (s' := ⟨[(4, .sc (.bool (((decide ((a0.length : Int) ≤ (20 : Int))) && (decide ((0 : Int) ≤ a1))) && (decide (a1 ≤ (4000 : Int))))))], []⟩) (VC.sub (.c rfl <| .n _) (.n _)) (Res.drop rfl (Res.of rfl (.cons (.tmp rfl) (.nil)) rfl rfl)))
  · refine AWP.vc (s' := ⟨[(0, .rd β1 a0.length (a0.flatMap encR27)), (1, .sc (.int .i64 a1)), (5, .sc (.int .i64 (0 : Int)))], []⟩) (VC.sub (.c rfl <| .c rfl <| .c rfl <| .n _) (.n _)) ?_
    refine AWP.loopM (S := fun x_9 : Int => ⟨[(0, .rd β1 a0.length (a0.flatMap encR27)), (1, .sc (.int .i64 a1)), (5, .sc (.int .i64 x_9))], []⟩) (x := (0 : Int)) (fun nx_10 x_9 h => ?_) h
    unfold m13_L1 at h
    refine AWP.seq ?_
    refine AWP.seq ?_
    refine AWP.region (.cons (.move (lt1 rfl) (.tmp rfl)) <| .cons (.move (lt1 rfl) (.tmp rfl)) <| .cons (.lenRd (lt1 rfl) (.tmp rfl) Try.underlying22) <| .cons (.lss (lt1 rfl) (.tmp rfl) (.tmp rfl)) <| ARun.nil _ _ _) ?_
    refine AWP.vc (s' := ⟨[(0, .rd β1 a0.length (a0.flatMap encR27)), (1, .sc (.int .i64 a1)), (5, .sc (.int .i64 x_9)), (10, .sc (.bool (decide (x_9 < (a0.length : Int)))))], []⟩) (VC.sub (.c rfl <| .c rfl <| .c rfl <| .c rfl <| .n _) (.n _)) ?_
    refine AWP.cond (.tmp rfl) (fun hc => ?_) (fun hc => ?_)
    · have h := iteT hc h
      refine AWP.skip ?_
      refine AWP.seq ?_
      refine AWP.block ?_
      refine AWP.seq ?_
      obtain ⟨y_11, hy_11, h⟩ := bindS h
      refine AWP.region (.cons (.move (lt1 rfl) (.tmp rfl)) <| .cons (.move (lt1 rfl) (.tmp rfl)) <| .cons (.indexRd (enc := encR27) (lt1 rfl) (.tmp rfl) (.tmp rfl) Try.underlying22 sz36 encR27_len rfl hy_11) <| .cons (.loadRA (out := [.sc (.int .i64 y_11.Size), .sc (.int .i64 y_11.Value), .sc (.int .i64 y_11.Most)]) (lt1 rfl) (.tmp rfl) agg36 (Nat.le_of_eq (Eq.symm (encR27_len _))) rfl) <| .cons (.alloc (t := 1) (k := ⟨36, false, [.sc (.int .i64 (0 : Int)), .sc (.int .i64 (0 : Int)), .sc (.int .i64 (0 : Int))]⟩) (lt1 rfl) (nm rfl) zero36 rfl rfl) <| .cons (.storePA (.tmp rfl) (.tmp rfl) sz36 rfl rfl (le1 rfl) (one_lit rfl) (by intro h; cases h) rfl) <| ARun.nil _ _ _) ?_
      refine AWP.vc (s' := ⟨[(0, .rd β1 a0.length (a0.flatMap encR27)), (1, .sc (.int .i64 a1)), (5, .sc (.int .i64 x_9)), (6, .ptr 1 0)], [(1, ⟨36, false, [.sc (.int .i64 y_11.Size), .sc (.int .i64 y_11.Value), .sc (.int .i64 y_11.Most)]⟩)]⟩) (VC.sub (.c rfl <| .c rfl <| .c rfl <| .c rfl <| .n _) (.c rfl <| .n _)) ?_
      refine AWP.seq ?_
      obtain ⟨t44_12, ht44_12, h⟩ := letS h
      refine AWP.region (.cons (.fieldP (lt1 rfl) (.tmp rfl) fld36_0) <| .cons (.loadP (lt1 rfl) (.tmp rfl) one3 rfl rfl rfl) <| .cons (.lss (lt1 rfl) (.tmp rfl) (.const _ _ _)) <| .cons (.move (lt1 rfl) (.tmp rfl)) <| .guard (j := 3) (dj := 20) rfl (lt1 rfl) rfl (lt1 rfl) (fun hg => .fieldP (lt1 rfl) (.tmp rfl) fld36_0) <| .guard (j := 3) (dj := 20) rfl (lt1 rfl) rfl (lt1 rfl) (fun hg => .loadP (lt1 rfl) (.gd hg (.tmp rfl)) one3 rfl rfl rfl) <| .guard (j := 3) (dj := 20) rfl (lt1 rfl) rfl (lt1 rfl) (fun hg => .gtr (lt1 rfl) (.gd hg (.tmp rfl)) (.const _ _ _)) <| .cons (.pickOr (lt1 rfl) (.tmp rfl) (.const _ _ _) (.tmp rfl)) <| .cons (.move (lt1 rfl) (.tmp rfl)) <| .guard (j := 8) (dj := 25) rfl (lt1 rfl) rfl (lt1 rfl) (fun hg => .fieldP (lt1 rfl) (.tmp rfl) fld36_1) <| .guard (j := 8) (dj := 25) rfl (lt1 rfl) rfl (lt1 rfl) (fun hg => .loadP (lt1 rfl) (.gd hg (.tmp rfl)) one3 rfl rfl rfl) <| .guard (j := 8) (dj := 25) rfl (lt1 rfl) rfl (lt1 rfl) (fun hg => .lss (lt1 rfl) (.gd hg (.tmp rfl)) (.const _ _ _)) <| .cons (.pickOr (lt1 rfl) (.tmp rfl) (.const _ _ _) (.tmp rfl)) <| .cons (.move (lt1 rfl) (.tmp rfl)) <| .guard (j := 13) (dj := 30) rfl (lt1 rfl) rfl (lt1 rfl) (fun hg => .fieldP (lt1 rfl) (.tmp rfl) fld36_1) <| .guard (j := 13) (dj := 30) rfl (lt1 rfl) rfl (lt1 rfl) (fun hg => .loadP (lt1 rfl) (.gd hg (.tmp rfl)) one3 rfl rfl rfl) <| .guard (j := 13) (dj := 30) rfl (lt1 rfl) rfl (lt1 rfl) (fun hg => .gtr (lt1 rfl) (.gd hg (.tmp rfl)) (.const _ _ _)) <| .cons (.pickOr (lt1 rfl) (.tmp rfl) (.const _ _ _) (.tmp rfl)) <| .cons (.move (lt1 rfl) (.tmp rfl)) <| .guard (j := 18) (dj := 35) rfl (lt1 rfl) rfl (lt1 rfl) (fun hg => .fieldP (lt1 rfl) (.tmp rfl) fld36_2) <| .guard (j := 18) (dj := 35) rfl (lt1 rfl) rfl (lt1 rfl) (fun hg => .loadP (lt1 rfl) (.gd hg (.tmp rfl)) one3 rfl rfl rfl) <| .guard (j := 18) (dj := 35) rfl (lt1 rfl) rfl (lt1 rfl) (fun hg => .lss (lt1 rfl) (.gd hg (.tmp rfl)) (.const _ _ _)) <| .cons (.pickOr (lt1 rfl) (.tmp rfl) (.const _ _ _) (.tmp rfl)) <| .cons (.move (lt1 rfl) (.tmp rfl)) <| .guard (j := 23) (dj := 40) rfl (lt1 rfl) rfl (lt1 rfl) (fun hg => .fieldP (lt1 rfl) (.tmp rfl) fld36_2) <| .guard (j := 23) (dj := 40) rfl (lt1 rfl) rfl (lt1 rfl) (fun hg => .loadP (lt1 rfl) (.gd hg (.tmp rfl)) one3 rfl rfl rfl) <| .guard (j := 23) (dj := 40) rfl (lt1 rfl) rfl (lt1 rfl) (fun hg => .gtr (lt1 rfl) (.gd hg (.tmp rfl)) (.const _ _ _)) <| .cons (.pickOr (lt1 rfl) (.tmp rfl) (.const _ _ _) (.tmp rfl)) <| ARun.nil _ _ _) ?_
      refine AWP.vc (s' := ⟨[(0, .rd β1 a0.length (a0.flatMap encR27)), (1, .sc (.int .i64 a1)), (5, .sc (.int .i64 x_9)), (44, .sc (.bool t44_12))], []⟩) (by subst ht44_12; exact VC.sub (.c rfl <| .c rfl <| .c rfl <| .c rfl <| .n _) (.n _)) ?_
      refine AWP.cond (.tmp rfl) (fun hc => ?_) (fun hc => ?_)
      · have h := iteT hc h
        refine AWP.seq ?_
        refine AWP.region (.cons (.assign (lt1 rfl) (.const _ _ _)) <| ARun.nil _ _ _) ?_
        refine AWP.ret ?_
        obtain rfl := Option.some.inj h
        exact retJ (Res.vc (s' := ⟨[(4, .sc (.bool false))], []⟩) (VC.sub (.c rfl <| .n _) (.n _)) (Res.drop rfl (Res.of rfl (.cons (.tmp rfl) (.nil)) rfl rfl)))
      · have h := iteF hc h
        refine AWP.skip ?_
        obtain ⟨t5_13, ht5_13, h⟩ := letS h
        refine AWP.region (.cons (.move (lt1 rfl) (.tmp rfl)) <| .cons (.add (lt1 rfl) (.tmp rfl) (.const _ _ _)) <| .cons (.assign (lt1 rfl) (.tmp rfl)) <| ARun.nil _ _ _) ?_
        exact endJ t5_13 h (by subst ht5_13; exact VC.sub (.c rfl <| .c rfl <| .c rfl <| .n _) (.n _))
    · have h := iteF hc h
      refine AWP.exit ?_
      exact endJ () h (VC.sub (.c rfl <| .c rfl <| .n _) (.n _))
def m12 (n : Nat) (a0 : (List R27)) (a1 : Int) : Option Bool :=
  ((gdO (decide ((a0.length : Int) ≤ (30 : Int))) (m13 n a0 a1) default).bind fun y_1 => (some ((decide ((a0.length : Int) ≤ (30 : Int))) && ((!y_1) || ((decide ((a0.length : Int) ≤ (8 : Int))) && (decide (a1 ≤ (200 : Int))))))))
theorem c12 {β1 : Bool} (n : Nat) (a0 : (List R27)) (a1 : Int) {r : Bool} (h : m12 n a0 a1 = some r) : Spec Try.prog 12 [] [.rd β1 a0.length (a0.flatMap encR27), .sc (.int .i64 a1)] [] (.sc (.bool r)) [] := by
  refine Spec.of (fn := Try.f12) Try.func12 Try.ntmps12 rfl rfl (le1 rfl) (fun w0 Zs Zb T0 ι0 => ?_)
  unfold m12 at h
  refine AWP.seq ?_
  refine AWP.region (.cons (.assign (lt1 rfl) (.const _ _ _)) <| ARun.nil _ _ _) ?_
  refine AWP.vc (s' := ⟨[(0, .rd β1 a0.length (a0.flatMap encR27)), (1, .sc (.int .i64 a1))], []⟩) (VC.sub (.c rfl <| .c rfl <| .n _) (.n _)) ?_
  refine AWP.seq ?_
  obtain ⟨y_1, hy_1, h⟩ := bindS h
  refine AWP.region (.cons (.move (lt1 rfl) (.tmp rfl)) <| .cons (.lenRd (lt1 rfl) (.tmp rfl) Try.underlying22) <| .cons (.leq (lt1 rfl) (.tmp rfl) (.const _ _ _)) <| .cons (.move (lt1 rfl) (.tmp rfl)) <| .guard (j := 3) (dj := 8) rfl (lt1 rfl) rfl (lt1 rfl) (fun hg => .move (lt1 rfl) (.tmp rfl)) <| .guard (j := 3) (dj := 8) rfl (lt1 rfl) rfl (lt1 rfl) (fun hg => .move (lt1 rfl) (.tmp rfl)) <| .guard (j := 3) (dj := 8) rfl (lt1 rfl) rfl (lt1 rfl) (fun hg => .call0 (bw := false) (lt1 rfl) (c13 (β1 := β1) n a0 a1 (gdB hy_1 hg)) (.cons (.gd hg (.tmp rfl)) (.ren rfl) (.cons (.gd hg (.tmp rfl)) (.ren rfl) (.nil))) rfl) <| .guard (j := 3) (dj := 8) rfl (lt1 rfl) rfl (lt1 rfl) (fun hg => .not (lt1 rfl) (.gd hg (.tmp rfl))) <| .guard (j := 3) (dj := 8) rfl (lt1 rfl) rfl (lt1 rfl) (fun hg => .move (lt1 rfl) (.gd hg (.tmp rfl))) <| .guard2 (j := 8) (dj := 13) rfl (lt1 rfl) rfl (lt1 rfl) (fun hg => .move (lt1 rfl) (.tmp rfl)) <| .guard2 (j := 8) (dj := 13) rfl (lt1 rfl) rfl (lt1 rfl) (fun hg => .lenRd (lt1 rfl) (.gd hg (.tmp rfl)) Try.underlying22) <| .guard2 (j := 8) (dj := 13) rfl (lt1 rfl) rfl (lt1 rfl) (fun hg => .leq (lt1 rfl) (.gd hg (.tmp rfl)) (.const _ _ _)) <| .guard2 (j := 8) (dj := 13) rfl (lt1 rfl) rfl (lt1 rfl) (fun hg => .move (lt1 rfl) (.gd hg (.tmp rfl))) <| .guard2 (j := 12) (dj := 17) rfl (lt1 rfl) rfl (lt1 rfl) (fun hg => .move (lt1 rfl) (.tmp rfl)) <| .guard2 (j := 12) (dj := 17) rfl (lt1 rfl) rfl (lt1 rfl) (fun hg => .leq (lt1 rfl) (.gd hg (.tmp rfl)) (.const _ _ _)) <| .guard2 (j := 8) (dj := 13) rfl (lt1 rfl) rfl (lt1 rfl) (fun hg => .pickAnd (lt1 rfl) (.gd hg (.tmp rfl)) (.gdAnd hg (.tmp rfl)) (.const _ _ _)) <| .guard (j := 3) (dj := 8) rfl (lt1 rfl) rfl (lt1 rfl) (fun hg => .pickOr (lt1 rfl) (.gd hg (.tmp rfl)) (.const _ _ _) (.gdAnd hg (.tmp rfl))) <| .cons (.pickAnd (lt1 rfl) (.tmp rfl) (.tmp rfl) (.const _ _ _)) <| .cons (.assign (lt1 rfl) (.tmp rfl)) <| ARun.nil _ _ _) ?_
  refine AWP.ret ?_
  obtain rfl := Option.some.inj h
  exact retJ (Res.vc (s' := ⟨[(4, .sc (.bool ((decide ((a0.length : Int) ≤ (30 : Int))) && ((!y_1) || ((decide ((a0.length : Int) ≤ (8 : Int))) && (decide (a1 ≤ (200 : Int))))))))], []⟩) (VC.sub (.c rfl <| .n _) (.n _)) (Res.drop rfl (Res.of rfl (.cons (.tmp rfl) (.nil)) rfl rfl)))
def m14_L1 (n : Nat) (a0 : (List R27)) (k_15 : (List R27) → Option (List R27)) (nx_10 : (Int × (List R27)) → Option (List R27)) (x_9 : (Int × (List R27))) : Option (List R27) :=
  (if (decide (x_9.1 < (a0.length : Int))) = true then ((getIdx a0 x_9.1).bind fun y_11 => ((apd x_9.2 ([(R27.mk y_11.Size y_11.Value y_11.Most)] : List R27)).bind fun l1_12 => (letM ((IntKind.wrap .i64 (x_9.1 + (1 : Int)))) fun t8_13 => (nx_10 (t8_13, l1_12))))) else (k_15 x_9.2))
def m14 (n : Nat) (a0 : (List R27)) : Option (List R27) :=
  (jn (fun p_14 : (List R27) => (some p_14)) fun k_15 => (loopM (m14_L1 n a0 k_15) n ((0 : Int), ([] : List R27))))
theorem c14 {β1 : Bool} (n : Nat) (a0 : (List R27)) {r : (List R27)} (h : m14 n a0 = some r) : Spec Try.prog 14 [] [.rd β1 a0.length (a0.flatMap encR27)] [] (.rd false r.length (r.flatMap encR27)) [] := by
  refine Spec.of (fn := Try.f14) Try.func14 Try.ntmps14 rfl rfl (le1 rfl) (fun w0 Zs Zb T0 ι0 => ?_)
  unfold m14 at h
  refine AWP.seq ?_
  refine AWP.region (.cons (.assign (lt1 rfl) (.const _ _ _)) <| ARun.nil _ _ _) ?_
  refine AWP.vc (s' := ⟨[(0, .rd β1 a0.length (a0.flatMap encR27))], []⟩) (VC.sub (.c rfl <| .n _) (.n _)) ?_
  refine AWP.seq ?_
  refine AWP.region (.cons (.assign (lt1 rfl) (.const _ _ _)) <| ARun.nil _ _ _) ?_
  refine AWP.vc (s' := ⟨[(0, .rd β1 a0.length (a0.flatMap encR27)), (3, .sc (.slice none 0 0))], []⟩) (VC.sub (.c rfl <| .c rfl <| .n _) (.n _)) ?_
  refine AWP.seq ?_
  refine AWP.seq ?_
  refine AWP.region (.cons (.move (lt1 rfl) (.tmp rfl)) <| .cons (.lenRd (lt1 rfl) (.tmp rfl) Try.underlying22) <| .cons (.move (lt1 rfl) (.const _ _ _)) <| ARun.nil _ _ _) ?_
  refine AWP.vc (s' := ⟨[(3, .sc (.slice none 0 0)), (6, .rd β1 a0.length (a0.flatMap encR27)), (7, .sc (.int .i64 (a0.length : Int))), (8, .sc (.int .i64 (0 : Int)))], []⟩) (VC.sub (.c rfl <| .c rfl <| .c rfl <| .c rfl <| .n _) (.n _)) ?_
  refine AWP.joinB' (S := fun p_14 : (List R27) => ⟨[(3, .own 1 3 0 p_14.length)], [(1, ⟨28, true, p_14.flatMap encR27⟩)]⟩) h (fun p_14 h => ?_) (fun k_15 h => ?_)
  · refine AWP.seq ?_
    refine AWP.region (.cons (.move (lt1 rfl) (.tmp rfl)) <| .cons (.assign (lt1 rfl) (.tmp rfl)) <| ARun.nil _ _ _) ?_
    refine AWP.ret ?_
    obtain rfl := Option.some.inj h
    exact retJ (Res.vc (s' := ⟨[(2, .rd false p_14.length (p_14.flatMap encR27))], []⟩) (VC.trans (VC.frz (d := 2) (t := 1) rfl rfl encR27_len) (VC.sub (.c rfl <| .n _) (.n _))) (Res.drop rfl (Res.of rfl (.cons (.tmp rfl) (.nil)) rfl rfl)))
  · refine AWP.vc (VC.nilOwn (d := 3) (t := 1) (sz := 3) (E := 28) rfl (nm rfl)) ?_
    refine AWP.vc (s' := ⟨[(3, .own 1 3 0 ([] : List R27).length), (6, .rd β1 a0.length (a0.flatMap encR27)), (7, .sc (.int .i64 (a0.length : Int))), (8, .sc (.int .i64 (0 : Int)))], [(1, ⟨28, true, ([] : List R27).flatMap encR27⟩)]⟩) (VC.sub (.c rfl <| .c rfl <| .c rfl <| .c rfl <| .n _) (.c rfl <| .n _)) ?_
    refine AWP.loopM (S := fun x_9 : Int × (List R27) => ⟨[(3, .own 1 3 0 x_9.2.length), (6, .rd β1 a0.length (a0.flatMap encR27)), (7, .sc (.int .i64 (a0.length : Int))), (8, .sc (.int .i64 x_9.1))], [(1, ⟨28, true, x_9.2.flatMap encR27⟩)]⟩) (x := ((0 : Int), ([] : List R27))) (fun nx_10 x_9 h => ?_) h
    unfold m14_L1 at h
    refine AWP.seq ?_
    refine AWP.region (.cons (.lss (lt1 rfl) (.tmp rfl) (.tmp rfl)) <| ARun.nil _ _ _) ?_
    refine AWP.vc (s' := ⟨[(3, .own 1 3 0 x_9.2.length), (6, .rd β1 a0.length (a0.flatMap encR27)), (7, .sc (.int .i64 (a0.length : Int))), (8, .sc (.int .i64 x_9.1)), (9, .sc (.bool (decide (x_9.1 < (a0.length : Int)))))], [(1, ⟨28, true, x_9.2.flatMap encR27⟩)]⟩) (VC.sub (.c rfl <| .c rfl <| .c rfl <| .c rfl <| .c rfl <| .n _) (.c rfl <| .n _)) ?_
    refine AWP.seq ?_
    refine AWP.cond (.tmp rfl) (fun hc => ?_) (fun hc => ?_)
    · have h := iteT hc h
      refine AWP.skip ?_
      refine AWP.seq ?_
      refine AWP.block ?_
      refine AWP.seq ?_
      obtain ⟨y_11, hy_11, h⟩ := bindS h
      refine AWP.region (.cons (.indexRd (enc := encR27) (lt1 rfl) (.tmp rfl) (.tmp rfl) Try.underlying22 sz36 encR27_len rfl hy_11) <| .cons (.loadRA (out := [.sc (.int .i64 y_11.Size), .sc (.int .i64 y_11.Value), .sc (.int .i64 y_11.Most)]) (lt1 rfl) (.tmp rfl) agg36 (Nat.le_of_eq (Eq.symm (encR27_len _))) rfl) <| .cons (.alloc (t := 2) (k := ⟨36, false, [.sc (.int .i64 (0 : Int)), .sc (.int .i64 (0 : Int)), .sc (.int .i64 (0 : Int))]⟩) (lt1 rfl) (nm rfl) zero36 rfl rfl) <| .cons (.storePA (.tmp rfl) (.tmp rfl) sz36 rfl rfl (le1 rfl) (one_lit rfl) (by intro h; cases h) rfl) <| ARun.nil _ _ _) ?_
      refine AWP.vc (s' := ⟨[(3, .own 1 3 0 x_9.2.length), (6, .rd β1 a0.length (a0.flatMap encR27)), (7, .sc (.int .i64 (a0.length : Int))), (8, .sc (.int .i64 x_9.1)), (5, .ptr 2 0)], [(2, ⟨36, false, [.sc (.int .i64 y_11.Size), .sc (.int .i64 y_11.Value), .sc (.int .i64 y_11.Most)]⟩), (1, ⟨28, true, x_9.2.flatMap encR27⟩)]⟩) (VC.sub (.c rfl <| .c rfl <| .c rfl <| .c rfl <| .c rfl <| .n _) (.c rfl <| .c rfl <| .n _)) ?_
      obtain ⟨l1_12, hl1_12, h⟩ := bindS h
      refine AWP.region (.cons (.move (lt1 rfl) (.tmp rfl)) <| .cons (.loadPA (lt1 rfl) (.tmp rfl) agg36 rfl rfl rfl rfl) <| .cons (.buildSlice (t := 3) (out := ([(R27.mk y_11.Size y_11.Value y_11.Most)] : List R27).flatMap encR27) (lt1 rfl) (nm rfl) (.cons (.tmp rfl) (by first | exact ⟨rfl, rfl⟩ | rfl) (.nil)) Try.underlying25 zero28 el28 (by decide) (by decide) rfl (still_all encR27_still _)) <| .cons (.app (enc := encR27) (lt1 rfl) (nm rfl) (.tmp rfl) (Src.own (.tmp rfl) rfl (lendAll encR27_len _) (flatMap_length encR27_len _) (one_all encR27_one _) (.inl rfl)) Try.underlying25 ⟨_, Try.underlying25, by intro k hk; cases hk⟩ el28 rfl encR27_len rfl rfl (by decide) hl1_12) <| .cons (.assign (lt1 rfl) (.tmp rfl)) <| ARun.nil _ _ _) ?_
      refine AWP.vc (s' := ⟨[(3, .own 1 3 0 l1_12.length), (6, .rd β1 a0.length (a0.flatMap encR27)), (7, .sc (.int .i64 (a0.length : Int))), (8, .sc (.int .i64 x_9.1))], [(1, ⟨28, true, l1_12.flatMap encR27⟩)]⟩) (VC.sub (.c rfl <| .c rfl <| .c rfl <| .c rfl <| .n _) (.c rfl <| .n _)) ?_
      obtain ⟨t8_13, ht8_13, h⟩ := letS h
      refine AWP.region (.cons (.add (lt1 rfl) (.tmp rfl) (.const _ _ _)) <| .cons (.move (lt1 rfl) (.tmp rfl)) <| ARun.nil _ _ _) ?_
      exact endJ (t8_13, l1_12) h (by subst ht8_13; exact VC.sub (.c rfl <| .c rfl <| .c rfl <| .c rfl <| .n _) (.c rfl <| .n _))
    · have h := iteF hc h
      refine AWP.exit ?_
      exact endJ x_9.2 h (VC.sub (.c rfl <| .n _) (.c rfl <| .n _))
def m17_L1 (n : Nat) (a0 : (List Int)) (a1 : (List Int)) (k_15 : Unit → Option Bool) (nx_10 : Int → Option Bool) (x_9 : Int) : Option Bool :=
  (if (decide (x_9 < (a0.length : Int))) = true then ((getIdx a0 x_9).bind fun y_11 => ((getIdx a1 x_9).bind fun y_12 => (if (!decide (y_11 = y_12)) = true then (some false) else (letM ((IntKind.wrap .i64 (x_9 + (1 : Int)))) fun t5_13 => (nx_10 t5_13))))) else (k_15 ()))
def m17 (n : Nat) (a0 : (List Int)) (a1 : (List Int)) : Option Bool :=
  (if (!decide ((a0.length : Int) = (a1.length : Int))) = true then (some false) else (jn (fun p_14 : Unit => (some true)) fun k_15 => (loopM (m17_L1 n a0 a1 k_15) n (0 : Int))))
theorem c17 {β1 : Bool} {β2 : Bool} (n : Nat) (a0 : (List Int)) (a1 : (List Int)) {r : Bool} (h : m17 n a0 a1 = some r) : Spec Try.prog 17 [] [.rd β1 a0.length (a0.flatMap (encI .i64)), .rd β2 a1.length (a1.flatMap (encI .i64))] [] (.sc (.bool r)) [] := by
  refine Spec.of (fn := Try.f17) Try.func17 Try.ntmps17 rfl rfl (le1 rfl) (fun w0 Zs Zb T0 ι0 => ?_)
  unfold m17 at h
  refine AWP.seq ?_
  refine AWP.region (.cons (.assign (lt1 rfl) (.const _ _ _)) <| ARun.nil _ _ _) ?_
  refine AWP.vc (s' := ⟨[(0, .rd β1 a0.length (a0.flatMap (encI .i64))), (1, .rd β2 a1.length (a1.flatMap (encI .i64)))], []⟩) (VC.sub (.c rfl <| .c rfl <| .n _) (.n _)) ?_
  refine AWP.seq ?_
  refine AWP.seq ?_
  refine AWP.region (.cons (.move (lt1 rfl) (.tmp rfl)) <| .cons (.lenRd (lt1 rfl) (.tmp rfl) Try.underlying30) <| .cons (.move (lt1 rfl) (.tmp rfl)) <| .cons (.lenRd (lt1 rfl) (.tmp rfl) Try.underlying30) <| .cons (.neq (lt1 rfl) (.tmp rfl) (.tmp rfl)) <| ARun.nil _ _ _) ?_
  refine AWP.vc (s' := ⟨[(0, .rd β1 a0.length (a0.flatMap (encI .i64))), (1, .rd β2 a1.length (a1.flatMap (encI .i64))), (10, .sc (.bool (!decide ((a0.length : Int) = (a1.length : Int)))))], []⟩) (VC.sub (.c rfl <| .c rfl <| .c rfl <| .n _) (.n _)) ?_
  refine AWP.cond (.tmp rfl) (fun hc => ?_) (fun hc => ?_)
  · have h := iteT hc h
    refine AWP.seq ?_
    refine AWP.region (.cons (.assign (lt1 rfl) (.const _ _ _)) <| ARun.nil _ _ _) ?_
    refine AWP.ret ?_
    obtain rfl := Option.some.inj h
    exact retJ (Res.vc (s' := ⟨[(4, .sc (.bool false))], []⟩) (VC.sub (.c rfl <| .n _) (.n _)) (Res.drop rfl (Res.of rfl (.cons (.tmp rfl) (.nil)) rfl rfl)))
  · have h := iteF hc h
    refine AWP.skip ?_
    refine AWP.seq ?_
    refine AWP.seq ?_
    refine AWP.region (.cons (.assign (lt1 rfl) (.const _ _ _)) <| ARun.nil _ _ _) ?_
    refine AWP.vc (s' := ⟨[(0, .rd β1 a0.length (a0.flatMap (encI .i64))), (1, .rd β2 a1.length (a1.flatMap (encI .i64))), (5, .sc (.int .i64 (0 : Int)))], []⟩) (VC.sub (.c rfl <| .c rfl <| .c rfl <| .n _) (.n _)) ?_
    refine AWP.joinB' (S := fun p_14 : Unit => ⟨[], []⟩) h (fun p_14 h => ?_) (fun k_15 h => ?_)
    · refine AWP.seq ?_
      refine AWP.region (.cons (.assign (lt1 rfl) (.const _ _ _)) <| ARun.nil _ _ _) ?_
      refine AWP.ret ?_
      obtain rfl := Option.some.inj h
      exact retJ (Res.vc (s' := ⟨[(4, .sc (.bool true))], []⟩) (VC.sub (.c rfl <| .n _) (.n _)) (Res.drop rfl (Res.of rfl (.cons (.tmp rfl) (.nil)) rfl rfl)))
    · refine AWP.vc (s' := ⟨[(0, .rd β1 a0.length (a0.flatMap (encI .i64))), (1, .rd β2 a1.length (a1.flatMap (encI .i64))), (5, .sc (.int .i64 (0 : Int)))], []⟩) (VC.sub (.c rfl <| .c rfl <| .c rfl <| .n _) (.n _)) ?_
      refine AWP.loopM (S := fun x_9 : Int => ⟨[(0, .rd β1 a0.length (a0.flatMap (encI .i64))), (1, .rd β2 a1.length (a1.flatMap (encI .i64))), (5, .sc (.int .i64 x_9))], []⟩) (x := (0 : Int)) (fun nx_10 x_9 h => ?_) h
      unfold m17_L1 at h
      refine AWP.seq ?_
      refine AWP.seq ?_
      refine AWP.region (.cons (.move (lt1 rfl) (.tmp rfl)) <| .cons (.move (lt1 rfl) (.tmp rfl)) <| .cons (.lenRd (lt1 rfl) (.tmp rfl) Try.underlying30) <| .cons (.lss (lt1 rfl) (.tmp rfl) (.tmp rfl)) <| ARun.nil _ _ _) ?_
      refine AWP.vc (s' := ⟨[(0, .rd β1 a0.length (a0.flatMap (encI .i64))), (1, .rd β2 a1.length (a1.flatMap (encI .i64))), (5, .sc (.int .i64 x_9)), (14, .sc (.bool (decide (x_9 < (a0.length : Int)))))], []⟩) (VC.sub (.c rfl <| .c rfl <| .c rfl <| .c rfl <| .n _) (.n _)) ?_
      refine AWP.cond (.tmp rfl) (fun hc => ?_) (fun hc => ?_)
      · have h := iteT hc h
        refine AWP.skip ?_
        refine AWP.seq ?_
        refine AWP.block ?_
        refine AWP.seq ?_
        obtain ⟨y_11, hy_11, h⟩ := bindS h
        obtain ⟨y_12, hy_12, h⟩ := bindS h
        refine AWP.draw (s' := ⟨[(0, .rd β1 a0.length (a0.flatMap (encI .i64))), (1, .rd β2 a1.length (a1.flatMap (encI .i64))), (5, .sc (.int .i64 x_9)), (25, .sc (.bool (!decide (y_11 = y_12))))], []⟩) mixed [⟨0, .rd β1 a0.length (a0.flatMap (encI .i64)), none, []⟩, ⟨1, .rd β2 a1.length (a1.flatMap (encI .i64)), none, []⟩, ⟨5, .sc (.int .i64 x_9), none, []⟩, ⟨14, .sc (.bool (decide (x_9 < (a0.length : Int)))), none, []⟩, ⟨17, .rd β1 a0.length (a0.flatMap (encI .i64)), some 0, []⟩, ⟨18, .sc (.int .i64 x_9), some 1, []⟩, ⟨19, .rptr β1 [.sc (.int .i64 y_11)], some 2, []⟩, ⟨20, .sc (.int .i64 y_11), some 3, []⟩, ⟨21, .rd β2 a1.length (a1.flatMap (encI .i64)), some 4, []⟩, ⟨22, .sc (.int .i64 x_9), some 5, []⟩, ⟨23, .rptr β2 [.sc (.int .i64 y_12)], some 6, []⟩, ⟨24, .sc (.int .i64 y_12), some 7, []⟩, ⟨25, .sc (.bool (!decide (y_11 = y_12))), some 8, []⟩] [⟨[0], 0, 0, some (17, .rd β1 a0.length (a0.flatMap (encI .i64))), []⟩, ⟨[2], 0, 0, some (18, .sc (.int .i64 x_9)), []⟩, ⟨[4, 5], 0, 0, some (19, .rptr β1 [.sc (.int .i64 y_11)]), []⟩, ⟨[6], 0, 0, some (20, .sc (.int .i64 y_11)), []⟩, ⟨[1], 0, 0, some (21, .rd β2 a1.length (a1.flatMap (encI .i64))), []⟩, ⟨[2], 0, 0, some (22, .sc (.int .i64 x_9)), []⟩, ⟨[8, 9], 0, 0, some (23, .rptr β2 [.sc (.int .i64 y_12)]), []⟩, ⟨[10], 0, 0, some (24, .sc (.int .i64 y_12)), []⟩, ⟨[7, 11], 0, 0, some (25, .sc (.bool (!decide (y_11 = y_12)))), []⟩] [] [[]] [[], [], [0, 1], [0, 1, 2], [], [], [4, 5], [4, 5, 6], [0, 1, 2, 3, 4, 5, 6, 7]] (by kernel_rfl) (by kernel_rfl) (And.intro trivial (And.intro trivial (And.intro trivial (And.intro trivial (And.intro (Exists.intro _ (And.intro rfl rfl)) (And.intro (Exists.intro _ (And.intro rfl rfl)) (And.intro (Exists.intro _ (And.intro rfl rfl)) (And.intro (Exists.intro _ (And.intro rfl rfl)) (And.intro (Exists.intro _ (And.intro rfl rfl)) (And.intro (Exists.intro _ (And.intro rfl rfl)) (And.intro (Exists.intro _ (And.intro rfl rfl)) (And.intro (Exists.intro _ (And.intro rfl rfl)) (And.intro (Exists.intro _ (And.intro rfl rfl)) (trivial)))))))))))))) (And.intro rfl (And.intro rfl (And.intro rfl (And.intro rfl (And.intro trivial (And.intro trivial (And.intro trivial (And.intro trivial (And.intro trivial (And.intro trivial (And.intro trivial (And.intro trivial (And.intro trivial (trivial)))))))))))))) rfl (by decide) (allLt rfl) (.pure rfl (fun H => .put (fun E hE => .move (lt1 rfl) (.tmp (hE.at (k := 0) rfl)))) <| .pure rfl (fun H => .put (fun E hE => .move (lt1 rfl) (.tmp (hE.at (k := 0) rfl)))) <| .pure rfl (fun H => .put (fun E hE => .indexRd (enc := (encI .i64)) (lt1 rfl) (.tmp (hE.at (k := 0) rfl)) (.tmp (hE.at (k := 1) rfl)) Try.underlying30 sz3 (encI_len .i64) rfl hy_11)) <| .pure rfl (fun H => .put (fun E hE => .loadR (v := .sc (.int .i64 y_11)) (lt1 rfl) (.tmp (hE.at (k := 0) rfl)) one3 rfl)) <| .pure rfl (fun H => .put (fun E hE => .move (lt1 rfl) (.tmp (hE.at (k := 0) rfl)))) <| .pure rfl (fun H => .put (fun E hE => .move (lt1 rfl) (.tmp (hE.at (k := 0) rfl)))) <| .pure rfl (fun H => .put (fun E hE => .indexRd (enc := (encI .i64)) (lt1 rfl) (.tmp (hE.at (k := 0) rfl)) (.tmp (hE.at (k := 1) rfl)) Try.underlying30 sz3 (encI_len .i64) rfl hy_12)) <| .pure rfl (fun H => .put (fun E hE => .loadR (v := .sc (.int .i64 y_12)) (lt1 rfl) (.tmp (hE.at (k := 0) rfl)) one3 rfl)) <| .pure rfl (fun H => .put (fun E hE => .neq (lt1 rfl) (.tmp (hE.at (k := 0) rfl)) (.tmp (hE.at (k := 1) rfl)))) <| .nil _) (fun E hE => .c (DInv.at hE (k := 0) rfl rfl rfl) <| .c (DInv.at hE (k := 1) rfl rfl rfl) <| .c (DInv.at hE (k := 2) rfl rfl rfl) <| .c (DInv.at hE (k := 12) rfl rfl rfl) <| .n _) rfl ?_
        refine AWP.vc (s' := ⟨[(0, .rd β1 a0.length (a0.flatMap (encI .i64))), (1, .rd β2 a1.length (a1.flatMap (encI .i64))), (5, .sc (.int .i64 x_9)), (25, .sc (.bool (!decide (y_11 = y_12))))], []⟩) (VC.sub (.c rfl <| .c rfl <| .c rfl <| .c rfl <| .n _) (.n _)) ?_
        refine AWP.cond (.tmp rfl) (fun hc => ?_) (fun hc => ?_)
        · have h := iteT hc h
          refine AWP.seq ?_
          refine AWP.region (.cons (.assign (lt1 rfl) (.const _ _ _)) <| ARun.nil _ _ _) ?_
          refine AWP.ret ?_
          obtain rfl := Option.some.inj h
          exact retJ (Res.vc (s' := ⟨[(4, .sc (.bool false))], []⟩) (VC.sub (.c rfl <| .n _) (.n _)) (Res.drop rfl (Res.of rfl (.cons (.tmp rfl) (.nil)) rfl rfl)))
        · have h := iteF hc h
          refine AWP.skip ?_
          obtain ⟨t5_13, ht5_13, h⟩ := letS h
          refine AWP.region (.cons (.move (lt1 rfl) (.tmp rfl)) <| .cons (.add (lt1 rfl) (.tmp rfl) (.const _ _ _)) <| .cons (.assign (lt1 rfl) (.tmp rfl)) <| ARun.nil _ _ _) ?_
          exact endJ t5_13 h (by subst ht5_13; exact VC.sub (.c rfl <| .c rfl <| .c rfl <| .n _) (.n _))
      · have h := iteF hc h
        refine AWP.exit ?_
        exact endJ () h (VC.sub (.n _) (.n _))
def m21_L1 (n : Nat) (a0 : (List R27)) (a1 : (List Int)) (t11_1 : Int) (k_19 : Int → Option Int) (nx_13 : (Int × Int) → Option Int) (x_12 : (Int × Int)) : Option Int :=
  (if (decide (x_12.2 < t11_1)) = true then ((getIdx a0 x_12.2).bind fun y_14 => ((getIdx a1 x_12.2).bind fun y_15 => (letM ((IntKind.wrap .i64 (x_12.1 + (IntKind.wrap .i64 (y_14.Value * y_15))))) fun t5_16 => (letM ((IntKind.wrap .i64 (x_12.2 + (1 : Int)))) fun t12_17 => (nx_13 (t5_16, t12_17)))))) else (k_19 x_12.1))
def m21 (n : Nat) (a0 : (List R27)) (a1 : (List Int)) : Option Int :=
  (letM ((if (a1.length : Int) < (a0.length : Int) then (a1.length : Int) else (a0.length : Int))) fun t11_1 => (jn (fun p_18 : Int => (some p_18)) fun k_19 => (loopM (m21_L1 n a0 a1 t11_1 k_19) n ((0 : Int), (0 : Int)))))
theorem c21 {β1 : Bool} {β2 : Bool} (n : Nat) (a0 : (List R27)) (a1 : (List Int)) {r : Int} (h : m21 n a0 a1 = some r) : Spec Try.prog 21 [] [.rd β1 a0.length (a0.flatMap encR27), .rd β2 a1.length (a1.flatMap (encI .i64))] [] (.sc (.int .i64 r)) [] := by
  refine Spec.of (fn := Try.f21) Try.func21 Try.ntmps21 rfl rfl (le1 rfl) (fun w0 Zs Zb T0 ι0 => ?_)
  unfold m21 at h
  refine AWP.seq ?_
  refine AWP.region (.cons (.assign (lt1 rfl) (.const _ _ _)) <| ARun.nil _ _ _) ?_
  refine AWP.vc (s' := ⟨[(0, .rd β1 a0.length (a0.flatMap encR27)), (1, .rd β2 a1.length (a1.flatMap (encI .i64)))], []⟩) (VC.sub (.c rfl <| .c rfl <| .n _) (.n _)) ?_
  refine AWP.seq ?_
  refine AWP.region (.cons (.assign (lt1 rfl) (.const _ _ _)) <| ARun.nil _ _ _) ?_
  refine AWP.vc (s' := ⟨[(0, .rd β1 a0.length (a0.flatMap encR27)), (1, .rd β2 a1.length (a1.flatMap (encI .i64))), (5, .sc (.int .i64 (0 : Int)))], []⟩) (VC.sub (.c rfl <| .c rfl <| .c rfl <| .n _) (.n _)) ?_
  refine AWP.seq ?_
  refine AWP.seq ?_
  obtain ⟨t11_1, ht11_1, h⟩ := letS h
  refine AWP.region (.cons (.move (lt1 rfl) (.tmp rfl)) <| .cons (.lenRd (lt1 rfl) (.tmp rfl) Try.underlying25) <| .cons (.move (lt1 rfl) (.tmp rfl)) <| .cons (.lenRd (lt1 rfl) (.tmp rfl) Try.underlying30) <| .cons (.min2 (lt1 rfl) (.tmp rfl) (.tmp rfl)) <| .cons (.move (lt1 rfl) (.const _ _ _)) <| ARun.nil _ _ _) ?_
  refine AWP.vc (s' := ⟨[(0, .rd β1 a0.length (a0.flatMap encR27)), (1, .rd β2 a1.length (a1.flatMap (encI .i64))), (5, .sc (.int .i64 (0 : Int))), (11, .sc (.int .i64 t11_1)), (12, .sc (.int .i64 (0 : Int)))], []⟩) (by subst ht11_1; exact VC.sub (.c rfl <| .c rfl <| .c rfl <| .c rfl <| .c rfl <| .n _) (.n _)) ?_
  refine AWP.joinB' (S := fun p_18 : Int => ⟨[(5, .sc (.int .i64 p_18))], []⟩) h (fun p_18 h => ?_) (fun k_19 h => ?_)
  · refine AWP.seq ?_
    refine AWP.region (.cons (.move (lt1 rfl) (.tmp rfl)) <| .cons (.assign (lt1 rfl) (.tmp rfl)) <| ARun.nil _ _ _) ?_
    refine AWP.ret ?_
    obtain rfl := Option.some.inj h
    exact retJ (Res.vc (s' := ⟨[(4, .sc (.int .i64 p_18))], []⟩) (VC.sub (.c rfl <| .n _) (.n _)) (Res.drop rfl (Res.of rfl (.cons (.tmp rfl) (.nil)) rfl rfl)))
  · refine AWP.vc (s' := ⟨[(0, .rd β1 a0.length (a0.flatMap encR27)), (1, .rd β2 a1.length (a1.flatMap (encI .i64))), (5, .sc (.int .i64 (0 : Int))), (11, .sc (.int .i64 t11_1)), (12, .sc (.int .i64 (0 : Int)))], []⟩) (VC.sub (.c rfl <| .c rfl <| .c rfl <| .c rfl <| .c rfl <| .n _) (.n _)) ?_
    refine AWP.loopM (S := fun x_12 : Int × Int => ⟨[(0, .rd β1 a0.length (a0.flatMap encR27)), (1, .rd β2 a1.length (a1.flatMap (encI .i64))), (5, .sc (.int .i64 x_12.1)), (11, .sc (.int .i64 t11_1)), (12, .sc (.int .i64 x_12.2))], []⟩) (x := ((0 : Int), (0 : Int))) (fun nx_13 x_12 h => ?_) h
    unfold m21_L1 at h
    refine AWP.seq ?_
    refine AWP.region (.cons (.lss (lt1 rfl) (.tmp rfl) (.tmp rfl)) <| ARun.nil _ _ _) ?_
    refine AWP.vc (s' := ⟨[(0, .rd β1 a0.length (a0.flatMap encR27)), (1, .rd β2 a1.length (a1.flatMap (encI .i64))), (5, .sc (.int .i64 x_12.1)), (11, .sc (.int .i64 t11_1)), (12, .sc (.int .i64 x_12.2)), (13, .sc (.bool (decide (x_12.2 < t11_1))))], []⟩) (VC.sub (.c rfl <| .c rfl <| .c rfl <| .c rfl <| .c rfl <| .c rfl <| .n _) (.n _)) ?_
    refine AWP.seq ?_
    refine AWP.cond (.tmp rfl) (fun hc => ?_) (fun hc => ?_)
    · have h := iteT hc h
      refine AWP.skip ?_
      refine AWP.seq ?_
      refine AWP.block ?_
      refine AWP.seq ?_
      refine AWP.region (.cons (.move (lt1 rfl) (.tmp rfl)) <| .cons (.assign (lt1 rfl) (.tmp rfl)) <| ARun.nil _ _ _) ?_
      refine AWP.vc (s' := ⟨[(0, .rd β1 a0.length (a0.flatMap encR27)), (1, .rd β2 a1.length (a1.flatMap (encI .i64))), (5, .sc (.int .i64 x_12.1)), (11, .sc (.int .i64 t11_1)), (12, .sc (.int .i64 x_12.2)), (6, .sc (.int .i64 x_12.2))], []⟩) (VC.sub (.c rfl <| .c rfl <| .c rfl <| .c rfl <| .c rfl <| .c rfl <| .n _) (.n _)) ?_
      obtain ⟨y_14, hy_14, h⟩ := bindS h
      obtain ⟨y_15, hy_15, h⟩ := bindS h
      obtain ⟨t5_16, ht5_16, h⟩ := letS h
      refine AWP.draw (s' := ⟨[(0, .rd β1 a0.length (a0.flatMap encR27)), (1, .rd β2 a1.length (a1.flatMap (encI .i64))), (5, .sc (.int .i64 (IntKind.wrap .i64 (x_12.1 + (IntKind.wrap .i64 (y_14.Value * y_15)))))), (11, .sc (.int .i64 t11_1)), (12, .sc (.int .i64 x_12.2))], []⟩) mixed [⟨0, .rd β1 a0.length (a0.flatMap encR27), none, []⟩, ⟨1, .rd β2 a1.length (a1.flatMap (encI .i64)), none, []⟩, ⟨5, .sc (.int .i64 x_12.1), none, [12]⟩, ⟨6, .sc (.int .i64 x_12.2), none, []⟩, ⟨11, .sc (.int .i64 t11_1), none, []⟩, ⟨12, .sc (.int .i64 x_12.2), none, []⟩, ⟨15, .sc (.int .i64 x_12.1), some 0, []⟩, ⟨16, .rd β1 a0.length (a0.flatMap encR27), some 1, []⟩, ⟨17, .sc (.int .i64 x_12.2), some 2, []⟩, ⟨18, .rptr β1 [.sc (.int .i64 y_14.Size), .sc (.int .i64 y_14.Value), .sc (.int .i64 y_14.Most)], some 3, []⟩, ⟨19, .rptr β1 [.sc (.int .i64 y_14.Value), .sc (.int .i64 y_14.Most)], some 4, []⟩, ⟨20, .sc (.int .i64 y_14.Value), some 5, []⟩, ⟨21, .rd β2 a1.length (a1.flatMap (encI .i64)), some 6, []⟩, ⟨22, .sc (.int .i64 x_12.2), some 7, []⟩, ⟨23, .rptr β2 [.sc (.int .i64 y_15)], some 8, []⟩, ⟨24, .sc (.int .i64 y_15), some 9, []⟩, ⟨25, .sc (.int .i64 (IntKind.wrap .i64 (y_14.Value * y_15))), some 10, []⟩, ⟨26, .sc (.int .i64 (IntKind.wrap .i64 (x_12.1 + (IntKind.wrap .i64 (y_14.Value * y_15))))), some 11, []⟩, ⟨5, .sc (.int .i64 (IntKind.wrap .i64 (x_12.1 + (IntKind.wrap .i64 (y_14.Value * y_15))))), some 12, []⟩] [⟨[2], 0, 0, some (15, .sc (.int .i64 x_12.1)), []⟩, ⟨[0], 0, 0, some (16, .rd β1 a0.length (a0.flatMap encR27)), []⟩, ⟨[3], 0, 0, some (17, .sc (.int .i64 x_12.2)), []⟩, ⟨[7, 8], 0, 0, some (18, .rptr β1 [.sc (.int .i64 y_14.Size), .sc (.int .i64 y_14.Value), .sc (.int .i64 y_14.Most)]), []⟩, ⟨[9], 0, 0, some (19, .rptr β1 [.sc (.int .i64 y_14.Value), .sc (.int .i64 y_14.Most)]), []⟩, ⟨[10], 0, 0, some (20, .sc (.int .i64 y_14.Value)), []⟩, ⟨[1], 0, 0, some (21, .rd β2 a1.length (a1.flatMap (encI .i64))), []⟩, ⟨[3], 0, 0, some (22, .sc (.int .i64 x_12.2)), []⟩, ⟨[12, 13], 0, 0, some (23, .rptr β2 [.sc (.int .i64 y_15)]), []⟩, ⟨[14], 0, 0, some (24, .sc (.int .i64 y_15)), []⟩, ⟨[11, 15], 0, 0, some (25, .sc (.int .i64 (IntKind.wrap .i64 (y_14.Value * y_15)))), []⟩, ⟨[6, 16], 0, 0, some (26, .sc (.int .i64 (IntKind.wrap .i64 (x_12.1 + (IntKind.wrap .i64 (y_14.Value * y_15)))))), []⟩, ⟨[17], 0, 0, some (5, .sc (.int .i64 (IntKind.wrap .i64 (x_12.1 + (IntKind.wrap .i64 (y_14.Value * y_15)))))), []⟩] [] [[]] [[], [], [], [1, 2], [1, 2, 3], [1, 2, 3, 4], [], [], [6, 7], [6, 7, 8], [1, 2, 3, 4, 5, 6, 7, 8, 9], [0, 1, 2, 3, 4, 5, 6, 7, 8, 9, 10], [0, 1, 2, 3, 4, 5, 6, 7, 8, 9, 10, 11]] (by kernel_rfl) (by kernel_rfl) (And.intro trivial (And.intro trivial (And.intro trivial (And.intro trivial (And.intro trivial (And.intro trivial (And.intro (Exists.intro _ (And.intro rfl rfl)) (And.intro (Exists.intro _ (And.intro rfl rfl)) (And.intro (Exists.intro _ (And.intro rfl rfl)) (And.intro (Exists.intro _ (And.intro rfl rfl)) (And.intro (Exists.intro _ (And.intro rfl rfl)) (And.intro (Exists.intro _ (And.intro rfl rfl)) (And.intro (Exists.intro _ (And.intro rfl rfl)) (And.intro (Exists.intro _ (And.intro rfl rfl)) (And.intro (Exists.intro _ (And.intro rfl rfl)) (And.intro (Exists.intro _ (And.intro rfl rfl)) (And.intro (Exists.intro _ (And.intro rfl rfl)) (And.intro (Exists.intro _ (And.intro rfl rfl)) (And.intro (Exists.intro _ (And.intro rfl rfl)) (trivial)))))))))))))))))))) (And.intro rfl (And.intro rfl (And.intro rfl (And.intro rfl (And.intro rfl (And.intro rfl (And.intro trivial (And.intro trivial (And.intro trivial (And.intro trivial (And.intro trivial (And.intro trivial (And.intro trivial (And.intro trivial (And.intro trivial (And.intro trivial (And.intro trivial (And.intro trivial (And.intro trivial (trivial)))))))))))))))))))) rfl (by decide) (allLt rfl) (.pure rfl (fun H => .put (fun E hE => .move (lt1 rfl) (.tmp (hE.at (k := 0) rfl)))) <| .pure rfl (fun H => .put (fun E hE => .move (lt1 rfl) (.tmp (hE.at (k := 0) rfl)))) <| .pure rfl (fun H => .put (fun E hE => .move (lt1 rfl) (.tmp (hE.at (k := 0) rfl)))) <| .pure rfl (fun H => .put (fun E hE => .indexRd (enc := encR27) (lt1 rfl) (.tmp (hE.at (k := 0) rfl)) (.tmp (hE.at (k := 1) rfl)) Try.underlying25 sz28 encR27_len rfl hy_14)) <| .pure rfl (fun H => .put (fun E hE => .fieldR (lt1 rfl) (.tmp (hE.at (k := 0) rfl)) fld28_1 rfl)) <| .pure rfl (fun H => .put (fun E hE => .loadR (v := .sc (.int .i64 y_14.Value)) (lt1 rfl) (.tmp (hE.at (k := 0) rfl)) one3 rfl)) <| .pure rfl (fun H => .put (fun E hE => .move (lt1 rfl) (.tmp (hE.at (k := 0) rfl)))) <| .pure rfl (fun H => .put (fun E hE => .move (lt1 rfl) (.tmp (hE.at (k := 0) rfl)))) <| .pure rfl (fun H => .put (fun E hE => .indexRd (enc := (encI .i64)) (lt1 rfl) (.tmp (hE.at (k := 0) rfl)) (.tmp (hE.at (k := 1) rfl)) Try.underlying30 sz3 (encI_len .i64) rfl hy_15)) <| .pure rfl (fun H => .put (fun E hE => .loadR (v := .sc (.int .i64 y_15)) (lt1 rfl) (.tmp (hE.at (k := 0) rfl)) one3 rfl)) <| .pure rfl (fun H => .put (fun E hE => .mul (lt1 rfl) (.tmp (hE.at (k := 0) rfl)) (.tmp (hE.at (k := 1) rfl)))) <| .pure rfl (fun H => .put (fun E hE => .add (lt1 rfl) (.tmp (hE.at (k := 0) rfl)) (.tmp (hE.at (k := 1) rfl)))) <| .pure rfl (fun H => .put (fun E hE => .assign (lt1 rfl) (.tmp (hE.at (k := 0) rfl)))) <| .nil _) (fun E hE => .c (DInv.at hE (k := 0) rfl rfl rfl) <| .c (DInv.at hE (k := 1) rfl rfl rfl) <| .c (DInv.at hE (k := 18) rfl rfl rfl) <| .c (DInv.at hE (k := 4) rfl rfl rfl) <| .c (DInv.at hE (k := 5) rfl rfl rfl) <| .n _) rfl ?_
      refine AWP.vc (s' := ⟨[(0, .rd β1 a0.length (a0.flatMap encR27)), (1, .rd β2 a1.length (a1.flatMap (encI .i64))), (5, .sc (.int .i64 t5_16)), (11, .sc (.int .i64 t11_1)), (12, .sc (.int .i64 x_12.2))], []⟩) (by subst ht5_16; exact VC.sub (.c rfl <| .c rfl <| .c rfl <| .c rfl <| .c rfl <| .n _) (.n _)) ?_
      obtain ⟨t12_17, ht12_17, h⟩ := letS h
      refine AWP.region (.cons (.add (lt1 rfl) (.tmp rfl) (.const _ _ _)) <| .cons (.move (lt1 rfl) (.tmp rfl)) <| ARun.nil _ _ _) ?_
      exact endJ (t5_16, t12_17) h (by subst ht12_17; exact VC.sub (.c rfl <| .c rfl <| .c rfl <| .c rfl <| .c rfl <| .n _) (.n _))
    · have h := iteF hc h
      refine AWP.exit ?_
      exact endJ x_12.1 h (VC.sub (.c rfl <| .n _) (.n _))
def m22_L1 (n : Nat) (a0 : (List R27)) (a1 : (List Int)) (t11_1 : Int) (k_19 : Int → Option Int) (nx_13 : (Int × Int) → Option Int) (x_12 : (Int × Int)) : Option Int :=
  (if (decide (x_12.2 < t11_1)) = true then ((getIdx a0 x_12.2).bind fun y_14 => ((getIdx a1 x_12.2).bind fun y_15 => (letM ((IntKind.wrap .i64 (x_12.1 + (IntKind.wrap .i64 (y_14.Size * y_15))))) fun t5_16 => (letM ((IntKind.wrap .i64 (x_12.2 + (1 : Int)))) fun t12_17 => (nx_13 (t5_16, t12_17)))))) else (k_19 x_12.1))
def m22 (n : Nat) (a0 : (List R27)) (a1 : (List Int)) : Option Int :=
  (letM ((if (a1.length : Int) < (a0.length : Int) then (a1.length : Int) else (a0.length : Int))) fun t11_1 => (jn (fun p_18 : Int => (some p_18)) fun k_19 => (loopM (m22_L1 n a0 a1 t11_1 k_19) n ((0 : Int), (0 : Int)))))
theorem c22 {β1 : Bool} {β2 : Bool} (n : Nat) (a0 : (List R27)) (a1 : (List Int)) {r : Int} (h : m22 n a0 a1 = some r) : Spec Try.prog 22 [] [.rd β1 a0.length (a0.flatMap encR27), .rd β2 a1.length (a1.flatMap (encI .i64))] [] (.sc (.int .i64 r)) [] := by
  refine Spec.of (fn := Try.f22) Try.func22 Try.ntmps22 rfl rfl (le1 rfl) (fun w0 Zs Zb T0 ι0 => ?_)
  unfold m22 at h
  refine AWP.seq ?_
  refine AWP.region (.cons (.assign (lt1 rfl) (.const _ _ _)) <| ARun.nil _ _ _) ?_
  refine AWP.vc (s' := ⟨[(0, .rd β1 a0.length (a0.flatMap encR27)), (1, .rd β2 a1.length (a1.flatMap (encI .i64)))], []⟩) (VC.sub (.c rfl <| .c rfl <| .n _) (.n _)) ?_
  refine AWP.seq ?_
  refine AWP.region (.cons (.assign (lt1 rfl) (.const _ _ _)) <| ARun.nil _ _ _) ?_
  refine AWP.vc (s' := ⟨[(0, .rd β1 a0.length (a0.flatMap encR27)), (1, .rd β2 a1.length (a1.flatMap (encI .i64))), (5, .sc (.int .i64 (0 : Int)))], []⟩) (VC.sub (.c rfl <| .c rfl <| .c rfl <| .n _) (.n _)) ?_
  refine AWP.seq ?_
  refine AWP.seq ?_
  obtain ⟨t11_1, ht11_1, h⟩ := letS h
  refine AWP.region (.cons (.move (lt1 rfl) (.tmp rfl)) <| .cons (.lenRd (lt1 rfl) (.tmp rfl) Try.underlying25) <| .cons (.move (lt1 rfl) (.tmp rfl)) <| .cons (.lenRd (lt1 rfl) (.tmp rfl) Try.underlying30) <| .cons (.min2 (lt1 rfl) (.tmp rfl) (.tmp rfl)) <| .cons (.move (lt1 rfl) (.const _ _ _)) <| ARun.nil _ _ _) ?_
  refine AWP.vc (s' := ⟨[(0, .rd β1 a0.length (a0.flatMap encR27)), (1, .rd β2 a1.length (a1.flatMap (encI .i64))), (5, .sc (.int .i64 (0 : Int))), (11, .sc (.int .i64 t11_1)), (12, .sc (.int .i64 (0 : Int)))], []⟩) (by subst ht11_1; exact VC.sub (.c rfl <| .c rfl <| .c rfl <| .c rfl <| .c rfl <| .n _) (.n _)) ?_
  refine AWP.joinB' (S := fun p_18 : Int => ⟨[(5, .sc (.int .i64 p_18))], []⟩) h (fun p_18 h => ?_) (fun k_19 h => ?_)
  · refine AWP.seq ?_
    refine AWP.region (.cons (.move (lt1 rfl) (.tmp rfl)) <| .cons (.assign (lt1 rfl) (.tmp rfl)) <| ARun.nil _ _ _) ?_
    refine AWP.ret ?_
    obtain rfl := Option.some.inj h
    exact retJ (Res.vc (s' := ⟨[(4, .sc (.int .i64 p_18))], []⟩) (VC.sub (.c rfl <| .n _) (.n _)) (Res.drop rfl (Res.of rfl (.cons (.tmp rfl) (.nil)) rfl rfl)))
  · refine AWP.vc (s' := ⟨[(0, .rd β1 a0.length (a0.flatMap encR27)), (1, .rd β2 a1.length (a1.flatMap (encI .i64))), (5, .sc (.int .i64 (0 : Int))), (11, .sc (.int .i64 t11_1)), (12, .sc (.int .i64 (0 : Int)))], []⟩) (VC.sub (.c rfl <| .c rfl <| .c rfl <| .c rfl <| .c rfl <| .n _) (.n _)) ?_
    refine AWP.loopM (S := fun x_12 : Int × Int => ⟨[(0, .rd β1 a0.length (a0.flatMap encR27)), (1, .rd β2 a1.length (a1.flatMap (encI .i64))), (5, .sc (.int .i64 x_12.1)), (11, .sc (.int .i64 t11_1)), (12, .sc (.int .i64 x_12.2))], []⟩) (x := ((0 : Int), (0 : Int))) (fun nx_13 x_12 h => ?_) h
    unfold m22_L1 at h
    refine AWP.seq ?_
    refine AWP.region (.cons (.lss (lt1 rfl) (.tmp rfl) (.tmp rfl)) <| ARun.nil _ _ _) ?_
    refine AWP.vc (s' := ⟨[(0, .rd β1 a0.length (a0.flatMap encR27)), (1, .rd β2 a1.length (a1.flatMap (encI .i64))), (5, .sc (.int .i64 x_12.1)), (11, .sc (.int .i64 t11_1)), (12, .sc (.int .i64 x_12.2)), (13, .sc (.bool (decide (x_12.2 < t11_1))))], []⟩) (VC.sub (.c rfl <| .c rfl <| .c rfl <| .c rfl <| .c rfl <| .c rfl <| .n _) (.n _)) ?_
    refine AWP.seq ?_
    refine AWP.cond (.tmp rfl) (fun hc => ?_) (fun hc => ?_)
    · have h := iteT hc h
      refine AWP.skip ?_
      refine AWP.seq ?_
      refine AWP.block ?_
      refine AWP.seq ?_
      refine AWP.region (.cons (.move (lt1 rfl) (.tmp rfl)) <| .cons (.assign (lt1 rfl) (.tmp rfl)) <| ARun.nil _ _ _) ?_
      refine AWP.vc (s' := ⟨[(0, .rd β1 a0.length (a0.flatMap encR27)), (1, .rd β2 a1.length (a1.flatMap (encI .i64))), (5, .sc (.int .i64 x_12.1)), (11, .sc (.int .i64 t11_1)), (12, .sc (.int .i64 x_12.2)), (6, .sc (.int .i64 x_12.2))], []⟩) (VC.sub (.c rfl <| .c rfl <| .c rfl <| .c rfl <| .c rfl <| .c rfl <| .n _) (.n _)) ?_
      obtain ⟨y_14, hy_14, h⟩ := bindS h
      obtain ⟨y_15, hy_15, h⟩ := bindS h
      obtain ⟨t5_16, ht5_16, h⟩ := letS h
      refine AWP.draw (s' := ⟨[(0, .rd β1 a0.length (a0.flatMap encR27)), (1, .rd β2 a1.length (a1.flatMap (encI .i64))), (5, .sc (.int .i64 (IntKind.wrap .i64 (x_12.1 + (IntKind.wrap .i64 (y_14.Size * y_15)))))), (11, .sc (.int .i64 t11_1)), (12, .sc (.int .i64 x_12.2))], []⟩) mixed [⟨0, .rd β1 a0.length (a0.flatMap encR27), none, []⟩, ⟨1, .rd β2 a1.length (a1.flatMap (encI .i64)), none, []⟩, ⟨5, .sc (.int .i64 x_12.1), none, [12]⟩, ⟨6, .sc (.int .i64 x_12.2), none, []⟩, ⟨11, .sc (.int .i64 t11_1), none, []⟩, ⟨12, .sc (.int .i64 x_12.2), none, []⟩, ⟨15, .sc (.int .i64 x_12.1), some 0, []⟩, ⟨16, .rd β1 a0.length (a0.flatMap encR27), some 1, []⟩, ⟨17, .sc (.int .i64 x_12.2), some 2, []⟩, ⟨18, .rptr β1 [.sc (.int .i64 y_14.Size), .sc (.int .i64 y_14.Value), .sc (.int .i64 y_14.Most)], some 3, []⟩, ⟨19, .rptr β1 [.sc (.int .i64 y_14.Size), .sc (.int .i64 y_14.Value), .sc (.int .i64 y_14.Most)], some 4, []⟩, ⟨20, .sc (.int .i64 y_14.Size), some 5, []⟩, ⟨21, .rd β2 a1.length (a1.flatMap (encI .i64)), some 6, []⟩, ⟨22, .sc (.int .i64 x_12.2), some 7, []⟩, ⟨23, .rptr β2 [.sc (.int .i64 y_15)], some 8, []⟩, ⟨24, .sc (.int .i64 y_15), some 9, []⟩, ⟨25, .sc (.int .i64 (IntKind.wrap .i64 (y_14.Size * y_15))), some 10, []⟩, ⟨26, .sc (.int .i64 (IntKind.wrap .i64 (x_12.1 + (IntKind.wrap .i64 (y_14.Size * y_15))))), some 11, []⟩, ⟨5, .sc (.int .i64 (IntKind.wrap .i64 (x_12.1 + (IntKind.wrap .i64 (y_14.Size * y_15))))), some 12, []⟩] [⟨[2], 0, 0, some (15, .sc (.int .i64 x_12.1)), []⟩, ⟨[0], 0, 0, some (16, .rd β1 a0.length (a0.flatMap encR27)), []⟩, ⟨[3], 0, 0, some (17, .sc (.int .i64 x_12.2)), []⟩, ⟨[7, 8], 0, 0, some (18, .rptr β1 [.sc (.int .i64 y_14.Size), .sc (.int .i64 y_14.Value), .sc (.int .i64 y_14.Most)]), []⟩, ⟨[9], 0, 0, some (19, .rptr β1 [.sc (.int .i64 y_14.Size), .sc (.int .i64 y_14.Value), .sc (.int .i64 y_14.Most)]), []⟩, ⟨[10], 0, 0, some (20, .sc (.int .i64 y_14.Size)), []⟩, ⟨[1], 0, 0, some (21, .rd β2 a1.length (a1.flatMap (encI .i64))), []⟩, ⟨[3], 0, 0, some (22, .sc (.int .i64 x_12.2)), []⟩, ⟨[12, 13], 0, 0, some (23, .rptr β2 [.sc (.int .i64 y_15)]), []⟩, ⟨[14], 0, 0, some (24, .sc (.int .i64 y_15)), []⟩, ⟨[11, 15], 0, 0, some (25, .sc (.int .i64 (IntKind.wrap .i64 (y_14.Size * y_15)))), []⟩, ⟨[6, 16], 0, 0, some (26, .sc (.int .i64 (IntKind.wrap .i64 (x_12.1 + (IntKind.wrap .i64 (y_14.Size * y_15)))))), []⟩, ⟨[17], 0, 0, some (5, .sc (.int .i64 (IntKind.wrap .i64 (x_12.1 + (IntKind.wrap .i64 (y_14.Size * y_15)))))), []⟩] [] [[]] [[], [], [], [1, 2], [1, 2, 3], [1, 2, 3, 4], [], [], [6, 7], [6, 7, 8], [1, 2, 3, 4, 5, 6, 7, 8, 9], [0, 1, 2, 3, 4, 5, 6, 7, 8, 9, 10], [0, 1, 2, 3, 4, 5, 6, 7, 8, 9, 10, 11]] (by kernel_rfl) (by kernel_rfl) (And.intro trivial (And.intro trivial (And.intro trivial (And.intro trivial (And.intro trivial (And.intro trivial (And.intro (Exists.intro _ (And.intro rfl rfl)) (And.intro (Exists.intro _ (And.intro rfl rfl)) (And.intro (Exists.intro _ (And.intro rfl rfl)) (And.intro (Exists.intro _ (And.intro rfl rfl)) (And.intro (Exists.intro _ (And.intro rfl rfl)) (And.intro (Exists.intro _ (And.intro rfl rfl)) (And.intro (Exists.intro _ (And.intro rfl rfl)) (And.intro (Exists.intro _ (And.intro rfl rfl)) (And.intro (Exists.intro _ (And.intro rfl rfl)) (And.intro (Exists.intro _ (And.intro rfl rfl)) (And.intro (Exists.intro _ (And.intro rfl rfl)) (And.intro (Exists.intro _ (And.intro rfl rfl)) (And.intro (Exists.intro _ (And.intro rfl rfl)) (trivial)))))))))))))))))))) (And.intro rfl (And.intro rfl (And.intro rfl (And.intro rfl (And.intro rfl (And.intro rfl (And.intro trivial (And.intro trivial (And.intro trivial (And.intro trivial (And.intro trivial (And.intro trivial (And.intro trivial (And.intro trivial (And.intro trivial (And.intro trivial (And.intro trivial (And.intro trivial (And.intro trivial (trivial)))))))))))))))))))) rfl (by decide) (allLt rfl) (.pure rfl (fun H => .put (fun E hE => .move (lt1 rfl) (.tmp (hE.at (k := 0) rfl)))) <| .pure rfl (fun H => .put (fun E hE => .move (lt1 rfl) (.tmp (hE.at (k := 0) rfl)))) <| .pure rfl (fun H => .put (fun E hE => .move (lt1 rfl) (.tmp (hE.at (k := 0) rfl)))) <| .pure rfl (fun H => .put (fun E hE => .indexRd (enc := encR27) (lt1 rfl) (.tmp (hE.at (k := 0) rfl)) (.tmp (hE.at (k := 1) rfl)) Try.underlying25 sz28 encR27_len rfl hy_14)) <| .pure rfl (fun H => .put (fun E hE => .fieldR (lt1 rfl) (.tmp (hE.at (k := 0) rfl)) fld28_0 rfl)) <| .pure rfl (fun H => .put (fun E hE => .loadR (v := .sc (.int .i64 y_14.Size)) (lt1 rfl) (.tmp (hE.at (k := 0) rfl)) one3 rfl)) <| .pure rfl (fun H => .put (fun E hE => .move (lt1 rfl) (.tmp (hE.at (k := 0) rfl)))) <| .pure rfl (fun H => .put (fun E hE => .move (lt1 rfl) (.tmp (hE.at (k := 0) rfl)))) <| .pure rfl (fun H => .put (fun E hE => .indexRd (enc := (encI .i64)) (lt1 rfl) (.tmp (hE.at (k := 0) rfl)) (.tmp (hE.at (k := 1) rfl)) Try.underlying30 sz3 (encI_len .i64) rfl hy_15)) <| .pure rfl (fun H => .put (fun E hE => .loadR (v := .sc (.int .i64 y_15)) (lt1 rfl) (.tmp (hE.at (k := 0) rfl)) one3 rfl)) <| .pure rfl (fun H => .put (fun E hE => .mul (lt1 rfl) (.tmp (hE.at (k := 0) rfl)) (.tmp (hE.at (k := 1) rfl)))) <| .pure rfl (fun H => .put (fun E hE => .add (lt1 rfl) (.tmp (hE.at (k := 0) rfl)) (.tmp (hE.at (k := 1) rfl)))) <| .pure rfl (fun H => .put (fun E hE => .assign (lt1 rfl) (.tmp (hE.at (k := 0) rfl)))) <| .nil _) (fun E hE => .c (DInv.at hE (k := 0) rfl rfl rfl) <| .c (DInv.at hE (k := 1) rfl rfl rfl) <| .c (DInv.at hE (k := 18) rfl rfl rfl) <| .c (DInv.at hE (k := 4) rfl rfl rfl) <| .c (DInv.at hE (k := 5) rfl rfl rfl) <| .n _) rfl ?_
      refine AWP.vc (s' := ⟨[(0, .rd β1 a0.length (a0.flatMap encR27)), (1, .rd β2 a1.length (a1.flatMap (encI .i64))), (5, .sc (.int .i64 t5_16)), (11, .sc (.int .i64 t11_1)), (12, .sc (.int .i64 x_12.2))], []⟩) (by subst ht5_16; exact VC.sub (.c rfl <| .c rfl <| .c rfl <| .c rfl <| .c rfl <| .n _) (.n _)) ?_
      obtain ⟨t12_17, ht12_17, h⟩ := letS h
      refine AWP.region (.cons (.add (lt1 rfl) (.tmp rfl) (.const _ _ _)) <| .cons (.move (lt1 rfl) (.tmp rfl)) <| ARun.nil _ _ _) ?_
      exact endJ (t5_16, t12_17) h (by subst ht12_17; exact VC.sub (.c rfl <| .c rfl <| .c rfl <| .c rfl <| .c rfl <| .n _) (.n _))
    · have h := iteF hc h
      refine AWP.exit ?_
      exact endJ x_12.1 h (VC.sub (.c rfl <| .n _) (.n _))
end Go.AB