import Derived.Test.YtpcjbgfgimboiaaLe
namespace Go.AB
open Go
theorem sorted_eq : ∀ {l l' : List R68},l.Perm l' → l.Pairwise lt → l'.Pairwise lt → l = l'
  | [],l',h,_,_ => by rw [List.nil_perm.1 h]
  | a :: l,[],h,_,_ => by simpa using h.length_eq
  | a :: l,b :: l',h,p,q => by
    rw [List.pairwise_cons] at p q
    have e : a = b := by
      have h1 : a ∈ b :: l' := h.subset (by simp)
      have h2 : b ∈ a :: l := h.symm.subset (by simp)
      rcases List.mem_cons.1 h1 with e | h1
      · exact e
      · rcases List.mem_cons.1 h2 with e | h2
        · exact e.symm
        · exact absurd (q.1 _ h1) (p.1 _ h2).asymm
    subst e
    rw [sorted_eq (List.Perm.cons_inv h) p.2 q.2]
def nums (l : List R68) : Prop := (l.map (·.number)).Nodup
theorem nums_perm {l l' : List R68} (h : l.Perm l') (hn : nums l) : nums l' := (h.map _).nodup_iff.1 hn
theorem lt_of {a b : R68} (hn : a.number ≠ b.number) (h : ¬ lt b a) : lt a b := by unfold lt at *; omega
theorem pops {n : Nat} {c : Int} (t : List R68) (hh : hp t) (hn : nums t) (h0 : 0 < t.length) (hl : t.length ≤ 100000) (hf : t.length < n) :
    ∃ a t',m21 n t c = some (a.x,true,c,t') ∧ hp t' ∧ (a :: t').Perm t ∧ nums t' ∧ (∀ b,b ∈ t' → lt a b) ∧ t'.length + 1 = t.length := by
  obtain ⟨a,t',e,q1,q2,q3⟩ := m21_val (n := n) (c := c) hh h0 hl hf
  have hn' := nums_perm q2.symm hn
  unfold nums at hn'
  rw [List.map_cons,List.nodup_cons] at hn'
  refine ⟨a,t',e,q1,q2,hn'.2,fun b hb => ?_,by have := q2.length_eq; simpa using this⟩
  refine lt_of (fun e => hn'.1 (List.mem_map.2 ⟨b,hb,e.symm⟩)) (q3 b (q2.subset (by simp [hb])))
end Go.AB
