import Derived.Test.YtpcjbgfgimboiaaLj
namespace Go.AB
open Go
theorem pop_cons {n : Nat} {c : Int} {u S : List R68} {s : R68} (hu : hp u) (hn : nums u) (hp' : u.Perm (s :: S)) (hS : (s :: S).Pairwise lt) (hl : u.length ≤ 100000) (hf : u.length < n) :
    ∃ t',m21 n u c = some (s.x,true,c,t') ∧ hp t' ∧ nums t' ∧ t'.Perm S := by
  have h0 : 0 < u.length := by rw [hp'.length_eq]; simp
  obtain ⟨a,u',e,w1,w2,w3,w4,w5⟩ := pops (n := n) (c := c) u hu hn h0 hl hf
  have hq : (a :: u').Perm (s :: S) := w2.trans hp'
  rw [List.pairwise_cons] at hS
  have : a = s := by
    rcases List.mem_cons.1 (hq.subset (List.mem_cons_self ..)) with e | h1
    · exact e
    · rcases List.mem_cons.1 (hq.symm.subset (List.mem_cons_self ..)) with e | h2
      · exact e.symm
      · exact absurd (hS.1 _ h1) (w4 _ h2).asymm
  subst this
  exact ⟨u',e,w1,w3,List.Perm.cons_inv hq⟩
def inv (w : List R27) (c : Int) (t : List R68) (j : Nat) : Prop := ∃ S : List R68,w = S.map (·.x) ∧ hp t ∧ nums t ∧ t.Perm S ∧ S.Pairwise lt ∧ t.length ≤ j ∧ 0 ≤ c ∧ c ≤ (j : Int) ∧ ∀ e,e ∈ t → e.number < c
end Go.AB
