import Derived.Test.YtgbbmfafdbafjaaProg
import Derived.Test.YtgbbmfafdbafjaaAb23
import Derived.Tactics
import Derived.Tactics2
import Derived.StillTactics
import Derived.Laws.Runes
import Derived.Laws.Shifts
import Derived.Laws.Rows
import Derived.Laws.BitsLemmas
import Derived.Laws.Strings
import Derived.Laws.ShiftsVarLaws
import Derived.Laws.Bits
import Derived.Laws.Strings2
import Derived.Laws.Wrap64
import Derived.Laws.ShiftsVar
import Derived.Laws.Closers25
import Derived.Laws.RangeString
import Derived.Laws.Cells
import Derived.Laws.BitsAll
import Derived.Laws.BitsAllLaws
import Derived.Laws.Bits64
import Derived.Laws.RangeAny
import Derived.Laws.World
import Derived.Laws.Sem
import Derived.Scope
import Derived.FnLit
import Derived.LoopTactic
import Derived.Lib.Hide
set_option linter.unusedVariables false
namespace Go.AB
open Go Go.Proofs Go.RowKit

theorem width_pos (s : ByteArray) (pos : Nat) (h : pos < s.size) : 1 ≤ (Utf8.decode s pos).2 := by
  by_cases ha : (s[pos]'h).toNat < 128
  · rw [decode_ascii s pos h ha]
    exact Nat.le_refl _
  · exact (decode_high s pos h (by omega)).2

/-- what Parse makes of the rest of a text -/
def prs (s : ByteArray) : Nat → Nat → Int → Int × Int
  | 0, _, h => (h, 0)
  | b + 1, pos, h =>
    if pos < s.size then
      if 48 ≤ ((Utf8.decode s pos).1 : Int) ∧ ((Utf8.decode s pos).1 : Int) ≤ 57 then
        prs s b (pos + (Utf8.decode s pos).2) (bits BinOp.or IntKind.u64 (IntKind.u64.wrap (h * 16)) (((Utf8.decode s pos).1 : Int) - 48))
      else if 97 ≤ ((Utf8.decode s pos).1 : Int) ∧ ((Utf8.decode s pos).1 : Int) ≤ 102 then prs s b (pos + (Utf8.decode s pos).2) (bits BinOp.or IntKind.u64 (IntKind.u64.wrap (h * 16)) (((Utf8.decode s pos).1 : Int) - 97 + 10))
      else (0, 3)
    else (h, 0)

set_option maxRecDepth 1000000 in
theorem parse_walk (s : ByteArray) (w : World) (hs : s.size = 16) :
    Calls Try.prog 21 #[.string s] w fun e w' => e = .returned (.tuple #[.int .u64 (prs s s.size 0 0).1, .int .i64 (prs s s.size 0 0).2]) ∧ ∃ pos, w' = w.iter s pos := by
  go_enter Try.func21, Try.ntmps21
  go_wp2
  go_loopw [4] (fun n w' => ∃ (pos b : Nat) (h : Int), w' = w.iter s pos ∧ n = .int .u64 h ∧ prs s b pos h = prs s s.size 0 0 ∧ s.size ≤ pos + b) (fun _ w' => s.size - w'.iterPos w.heap.size)
  case atStart => exact ⟨0, s.size, 0, rfl, rfl, rfl, by omega⟩
  case round =>
    obtain ⟨pos, b, h, rfl, rfl, hc, hb⟩ := hrel
    by_cases hp : pos < s.size
    · have hnx : ∀ ty, (Instr.next (.pointer (some ⟨w.heap.size, 0, none⟩)) true ty).run Try.prog (w.iter s pos) = _ := fun ty => run_next_any w s pos ty hp
      have hwd := width_pos s pos hp
      generalize hd : Utf8.decode s pos = cw at *
      obtain ⟨c, wd⟩ := cw
      by_cases h1 : 48 ≤ (c : Int) ∧ (c : Int) ≤ 57
      · have h1' := h1
        obtain ⟨h1, h2⟩ := h1
        go_wp2
        go_roundw
        case rel =>
          cases b with
          | zero => omega
          | succ b =>
            refine ⟨pos + wd, b, _, rfl, rfl, ?_, by omega⟩
            rw [← hc]
            simp only [prs, hd]
            rw [if_pos hp, if_pos h1']
        case measure =>
          simp
          omega
      · have hcase : ((48 : Int) ≤ c ∧ (57 : Int) < c) ∨ ((c : Int) < 48) := by omega
        by_cases h3 : 97 ≤ (c : Int) ∧ (c : Int) ≤ 102
        · have h3' := h3
          obtain ⟨h3, h4⟩ := h3
          go_wp2
          go_roundw
          case rel =>
            cases b with
            | zero => omega
            | succ b =>
              refine ⟨pos + wd, b, _, rfl, rfl, ?_, by omega⟩
              rw [← hc]
              simp only [prs, hd]
              rw [if_pos hp, if_neg h1, if_pos h3']
          case measure =>
            simp
            omega
        · have hend : prs s s.size 0 0 = (0, 3) := by
            rw [← hc]
            cases b with
            | zero => omega
            | succ b =>
              simp only [prs, hd]
              rw [if_pos hp, if_neg h1, if_neg h3]
          have HE := Lib.hid hend
          clear hend hc
          have hcase2 : ((97 : Int) ≤ c ∧ (102 : Int) < c) ∨ ((c : Int) < 97) := by omega
          rcases hcase with ⟨g1, g2⟩ | g1 <;> rcases hcase2 with ⟨g3, g4⟩ | g3
          all_goals go_wp2
          all_goals
            go_ret2
            have hE := HE.out
            rw [hs] at hE
            rw [hE]
            exact ⟨rfl, _, rfl⟩
    · have hnx : ∀ ty, (Instr.next (.pointer (some ⟨w.heap.size, 0, none⟩)) true ty).run Try.prog (w.iter s pos) = _ := fun ty => run_next_end w s pos ty hp
      go_wp2
      go_ret2
      have hend : prs s s.size 0 0 = (h, 0) := by
        rw [← hc]
        cases b with
        | zero => rfl
        | succ b =>
          simp only [prs]
          rw [if_neg hp]
      rw [hend]
      exact ⟨rfl, _, rfl⟩

set_option maxRecDepth 1000000 in
theorem parse_no (s : ByteArray) (w : World) (hs : s.size ≠ 16) (hm : s.size ≤ maxLen) :
    Calls Try.prog 21 #[.string s] w fun e w' => e = .returned (.tuple #[.int .u64 0, .int .i64 3]) ∧ w = w' := by
  have hs' : ((s.size : Int) != 16) = true := by simp; omega
  go_enter Try.func21, Try.ntmps21
  go_wp2
  go_ret2
  exact ⟨rfl, rfl⟩

def m21 (n : Nat) (a0 : List UInt8) : Option (Int × Int) := if a0.length ≤ maxLen then some (if a0.length = 16 then prs (mkS a0) 16 0 0 else (0, 3)) else none

theorem c21 (n : Nat) (a0 : List UInt8) {r : Int × Int} (h : m21 n a0 = some r) : Spec Try.prog 21 [] [.sc (.string (mkS a0))] [] (.tup [.sc (.int .u64 r.1), .sc (.int .i64 r.2)]) [] := by
  unfold m21 at h
  split at h
  · rename_i hm
    obtain rfl := Option.some.inj h
    refine Spec.ofCalls (us := [.string (mkS a0)]) (rv := .tuple [.int .u64 _, .int .i64 _].toArray) Try.func21 rfl (by kernel_rfl) (fun w => tup_sc (us := [.int .u64 _, .int .i64 _])) fun w => ?_
    by_cases hl : a0.length = 16
    · have hs : (mkS a0).size = 16 := by rw [mkS_size]; exact hl
      rw [if_pos hl]
      refine (parse_walk (mkS a0) w hs).mono fun e w' ⟨h1, pos, h2⟩ => ⟨?_, ?_⟩
      · rw [hs] at h1; exact h1
      · rw [h2]; exact (Below.refl _ _).alloc (Nat.le_refl _) _
    · rw [if_neg hl]
      refine (parse_no (mkS a0) w (by rw [mkS_size]; exact hl) (by rw [mkS_size]; exact hm)).mono fun e w' ⟨h1, h2⟩ => ⟨h1, by rw [← h2]; exact Below.refl _ _⟩
  · cases h
end Go.AB
