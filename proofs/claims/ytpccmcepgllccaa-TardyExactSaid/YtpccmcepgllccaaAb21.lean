/-
  AB, part 21: arrays that are moved to memory.
-/
import Derived.Test.YtpccmcepgllccaaAb19
namespace Go.AB
open Go

theorem AStep.boxArr {α : Type} {enc : α → List AV} {C : Ctx} {d : Nat} {ty : TypeId} {p : String} {e : Array Edge} {g : Option (Nat × Bool)} {s : St} {T : TypeId} {x : Operand} {xs : List α} {t : Nat} (hd : d < C.N) (hK : t ∉ C.K) (hx : Ev C s x (.agg (xs.flatMap enc)))
    (hs : ∀ y, ∀ c, c ∈ enc y → c.still = true) : AStep C ⟨some d, .box T x, ty, p, e, g⟩ s (s.newP d t ⟨T, true, xs.flatMap enc⟩ (.ptr t 0)) :=
  .run (fun _ h => by cases h) fun ι a w r => by
    have hv := hx ι a w r
    obtain ⟨e1, e2, h3⟩ := hv.wide (n := (xs.flatMap enc).length) rfl
    refine ⟨.pointer (some ⟨w.heap.size, 0, none⟩), w.alloc (.cells (a.eval x).cells T), setT ι t w.heap.size, ?_, ?_⟩
    · simp [execOp, Instr.box, newVar, newRow]
    · refine r.new hd hK rfl rfl rfl (by simp) (fun j hj => heap_alloc_old w _ hj) (Nat.le_refl _) (fun Z' hZ' => ?_) (fun Z' hZ' => ?_)
      · simp only [BlkR, setT, if_true]
        refine ⟨(a.eval x).cells, heap_alloc_new w _, by rw [e1]; exact Nat.le_refl _, fun i hi => ?_⟩
        obtain ⟨y, hy, hvr⟩ := h3 i hi
        refine ⟨y, hy, ?_⟩
        simp only [cond_true]
        have hst := still_all hs xs _ (List.getElem_mem hi)
        have hvs := VR.still hvr hst
        refine hvs.mono (fun b n hb => ?_) _ _ (fun β b hb => hZ' _ _ hb) (fun β b o u hz hc => ?_) (fun t' b hf ht => by cases ht)
        · unfold bsz at hb ⊢
          by_cases hlt : b < w.heap.size
          · rw [heap_alloc_old w _ hlt]; exact hb
          · rw [Array.getElem?_eq_none (by omega)] at hb; cases hb
        · rw [← hc]
          unfold World.cell?
          simp only [heap_alloc_old w _ hz.1]
      · exact .ptr _ _ _ _ _ (by simp [setT])
end Go.AB
