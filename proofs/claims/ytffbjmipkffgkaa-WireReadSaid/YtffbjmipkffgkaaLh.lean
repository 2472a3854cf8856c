import Derived.Test.YtffbjmipkffgkaaLg
namespace Go.AB
open Go

def WV (v : R59) : Prop := (Lit.int .i64 v.X).wf = true ∧ (Lit.int .i64 v.Y).wf = true ∧ True
def WR (l : List R59) : Prop := l.length ≤ maxLen ∧ ∀ y, y ∈ l → WV y
def WS (s : R27) : Prop := WR s.Outer ∧ (s.Holes.length ≤ maxLen ∧ ∀ y, y ∈ s.Holes → WR y) ∧ True
theorem WV.ok {v : R59} (h : WV v) : okVec v := ⟨wfI h.1, wfI h.2.1⟩
theorem WS.ints {s : R27} (h : WS s) : ints s := ⟨fun v hv => (h.1.2 v hv).ok, fun r hr v hv => ((h.2.1.2 r hr).2 v hv).ok⟩
theorem WS.len {s : R27} (h : WS s) : s.Holes.length ≤ 9223372036854775807 := by
  have := h.2.1.1
  have e : maxLen = 9223372036854775807 := by decide
  omega
theorem m3_all {a0 : List Int} {a1 : List (List UInt8)} {a2 : List R27} (h0 : a0.length = 2 ∧ ∀ y, y ∈ a0 → (Lit.int .i64 y).wf = true) (h1 : a1.length = 2) (h2 : a2.length = 2 ∧ ∀ y, y ∈ a2 → WS y) :
    m3 ((a2.map fun s => s.Holes.length).sum + 5001) a0 a1 a2 = some true := by
  obtain ⟨p, q, rfl⟩ := two h0.1
  obtain ⟨s, t, rfl⟩ := two h1
  obtain ⟨u, v, rfl⟩ := two h2.1
  have wu := h2.2 u (by simp)
  have wv := h2.2 v (by simp)
  exact m3_true (by omega) (wfI (h0.2 p (by simp))) (wfI (h0.2 q (by simp))) wu.ints wv.ints (by simp; omega) (by simp; omega) wu.len wv.len
end Go.AB
