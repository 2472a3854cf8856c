/-
  AB, part 23: a contract of AB from a contract of the kit's own walk.
-/
import Derived.Test.YtpccmcepgllccaaAb22
import Derived.Below
namespace Go.AB
open Go Go.RowKit

theorem Spec.ofCalls {P : Program} {f : FuncId} {fn : Func} {us : List Value} {r : AV} {rv : Value} (hf : P.funcs[f]? = some fn) (hb : fn.body.isNone = false) (hc : (fn.name == "runtime.NumGoroutine") = false)
    (hr : ∀ w, VR w (fun _ _ => False) (fun _ => none) r rv) (h : ∀ w, Calls P f us.toArray w fun e w' => e = .returned rv ∧ Below w.heap.size w w') : Spec P f [] (us.map .sc) [] r [] := by
  refine ⟨⟨fn, hf, hb, hc⟩, fun Zs Zb ι w vs N dfr ro hcore hv => ?_⟩
  have hno : ∀ t, ¬ has t ([] : List (Nat × Blk)) := fun t ⟨k, hk⟩ => by cases hk
  have hvs : vs = us := by
    apply List.ext_getElem?
    intro i
    obtain ⟨h1, h2⟩ := hv
    rcases Nat.lt_or_ge i us.length with hi | hi
    · obtain ⟨u, hu, hvr⟩ := h2 i (by simpa using hi)
      rw [hu, List.getElem?_eq_getElem hi]
      have : (us.map AV.sc)[i]'(by simpa using hi) = .sc us[i] := by simp
      rw [this] at hvr
      rw [sc_inv hvr]
    · rw [List.getElem?_eq_none (by rw [h1]; simpa using hi), List.getElem?_eq_none hi]
  subst hvs
  have key : CallsIn Fence.wide 0 P f vs.toArray w _ := callsIn_wide.2 (h w)
  refine CallsIn.mono key ?_
  rintro e w' ⟨rfl, hb⟩
  have hbz : ∀ b n, bsz w b = some n → bsz w' b = some n := by
    intro b n hn
    have hlt : b < w.heap.size := by
      unfold bsz at hn
      cases hx : w.heap[b]? with
      | none => rw [hx] at hn; cases hn
      | some o => exact (Array.getElem?_eq_some_iff.1 hx).1
    unfold bsz at hn ⊢
    rw [hb.block b hlt]
    exact hn
  refine ⟨rv, ι, rfl, ⟨(fun t k hk => by cases hk), fun t t' b ht => absurd ht (hno t), fun t b ht => absurd ht (hno t), ⟨hb.os, hb.tape, hb.output, hb.size, fun k hk _ => hb.block k hk, hbz⟩⟩, ?_, fun t ht => by cases ht⟩
  exact (hr w').mono (fun _ _ h => h) _ _ (fun _ _ h => h.elim) (fun _ _ _ _ h => h.elim) (fun _ _ _ h => by cases h)

theorem tup_sc {w : World} {Z : Zone} {ι : Tags} {us : List Value} : VR w Z ι (.tup (us.map .sc)) (.tuple us.toArray) :=
  .tup _ _ _ _ (by simp) fun i hi => by
    have : (us.map AV.sc)[i] = .sc (us[i]'(by simpa using hi)) := by simp
    rw [this]
    exact .sc _ _ _
end Go.AB
