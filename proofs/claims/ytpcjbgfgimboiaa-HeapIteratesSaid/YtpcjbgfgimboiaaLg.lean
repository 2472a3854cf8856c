import Derived.Test.YtpcjbgfgimboiaaLf
namespace Go.AB
open Go
theorem all_loop {n : Nat} {c : Int} : ∀ (N : Nat) (a : R68) (u : List R68),hp u → nums u → u.length + 1 < N → u.length ≤ 100000 → u.length < n →
    ∃ s : List R68,loopM (m33_L1 n fun _ => some []) N (true,c,a.x.Key,a.x.Tag,u) = some (a.x :: s.map (·.x)) ∧ s.Perm u ∧ s.Pairwise lt := by
  intro N
  induction N with
  | zero => intro a u _ _ h; omega
  | succ N ih =>
    intro a u hu hn hN hl hf
    rw [loopM_succ,m33_L1,if_pos rfl]
    dsimp only
    rcases Nat.eq_zero_or_pos u.length with h0 | h0
    · have : u = [] := List.eq_nil_of_length_eq_zero h0
      subst this
      obtain ⟨N,rfl⟩ : ∃ N',N = N' + 1 := ⟨N - 1,by simp at hN; omega⟩
      exact ⟨[],rfl,List.Perm.refl _,List.Pairwise.nil⟩
    · obtain ⟨a',u',e,w1,w2,w3,w4,w5⟩ := pops (n := n) (c := c) u hu hn h0 hl hf
      obtain ⟨s,q1,q2,q3⟩ := ih a' u' w1 w3 (by omega) (by omega) (by omega)
      rw [e,Option.bind_some]
      dsimp only
      rw [q1]
      refine ⟨a' :: s,rfl,(List.Perm.cons _ q2).trans w2,?_⟩
      rw [List.pairwise_cons]
      exact ⟨fun b hb => w4 b (q2.subset hb),q3⟩
theorem m33_val {n : Nat} {c : Int} {t : List R68} (hh : hp t) (hn : nums t) (hl : t.length ≤ 100000) (hf : t.length + 1 < n) :
    ∃ s : List R68,m33 n t c = some (s.map (·.x)) ∧ s.Perm t ∧ s.Pairwise lt := by
  unfold m33 jn
  have e1 : m23 n t c = some (R66.mk t c) := by
    unfold m23 m34
    rw [apd_val (by simp; omega)]
    rfl
  rw [e1,Option.bind_some]
  dsimp only
  rcases Nat.eq_zero_or_pos t.length with h0 | h0
  · have : t = [] := List.eq_nil_of_length_eq_zero h0
    subst this
    obtain ⟨n,rfl⟩ : ∃ n',n = n' + 1 := ⟨n - 1,by omega⟩
    exact ⟨[],rfl,List.Perm.refl _,List.Pairwise.nil⟩
  · obtain ⟨a',u',e,w1,w2,w3,w4,w5⟩ := pops (n := n) (c := c) t hh hn h0 hl (by omega)
    obtain ⟨s,q1,q2,q3⟩ := all_loop (n := n) (c := c) n a' u' w1 w3 (by omega) (by omega) (by omega)
    rw [e,Option.bind_some]
    dsimp only
    rw [q1]
    refine ⟨a' :: s,rfl,(List.Perm.cons _ q2).trans w2,?_⟩
    rw [List.pairwise_cons]
    exact ⟨fun b hb => w4 b (q2.subset hb),q3⟩
theorem nums_ent : ∀ (l : List R27) (c : Int),nums (ent l c) ∧ ∀ e,e ∈ ent l c → c ≤ e.number
  | [],c => ⟨by simp [nums,ent],by simp [ent]⟩
  | x :: l,c => by
    obtain ⟨h1,h2⟩ := nums_ent l (c + 1)
    refine ⟨?_,fun e he => ?_⟩
    · unfold nums at h1 ⊢
      rw [ent,List.map_cons,List.nodup_cons]
      refine ⟨fun hm => ?_,h1⟩
      obtain ⟨e,he,e2⟩ := List.mem_map.1 hm
      have := h2 e he
      dsimp only at e2
      omega
    · rw [ent] at he
      rcases List.mem_cons.1 he with rfl | he
      · exact Int.le_refl _
      · have := h2 e he
        omega
def insE : List R68 → R68 → List R68
  | [],e => [e]
  | y :: s,e => if y.x.Key ≤ e.x.Key then y :: insE s e else e :: y :: s
def insR : List R27 → R27 → List R27
  | [],e => [e]
  | y :: s,e => if y.Key ≤ e.Key then y :: insR s e else e :: y :: s
theorem ins_map : ∀ (s : List R68) (e : R68),(insE s e).map (·.x) = insR (s.map (·.x)) e.x
  | [],e => rfl
  | y :: s,e => by
    rw [insE,List.map_cons,insR]
    by_cases h : y.x.Key ≤ e.x.Key
    · rw [if_pos h,if_pos h,List.map_cons,ins_map s e]
    · rw [if_neg h,if_neg h]; rfl
theorem insE_perm : ∀ (s : List R68) (e : R68),(insE s e).Perm (s ++ [e])
  | [],e => List.Perm.refl _
  | y :: s,e => by
    rw [insE]
    by_cases h : y.x.Key ≤ e.x.Key
    · rw [if_pos h,List.cons_append]
      exact List.Perm.cons _ (insE_perm s e)
    · rw [if_neg h]
      exact (List.perm_append_singleton e (y :: s)).symm
theorem insE_sorted : ∀ (s : List R68) (e : R68),s.Pairwise lt → (∀ y,y ∈ s → y.number < e.number) → (insE s e).Pairwise lt
  | [],e,_,_ => by simp [insE]
  | y :: s,e,hs,hn => by
    rw [List.pairwise_cons] at hs
    have hy := hn y (by simp)
    rw [insE]
    by_cases h : y.x.Key ≤ e.x.Key
    · rw [if_pos h,List.pairwise_cons]
      refine ⟨fun z hz => ?_,insE_sorted s e hs.2 fun z hz => hn z (by simp [hz])⟩
      rcases List.mem_append.1 ((insE_perm s e).subset hz) with hz | hz
      · exact hs.1 z hz
      · rw [List.mem_singleton.1 hz]
        unfold lt; omega
    · rw [if_neg h,List.pairwise_cons,List.pairwise_cons]
      refine ⟨fun z hz => ?_,hs⟩
      rcases List.mem_cons.1 hz with rfl | hz
      · unfold lt; omega
      · have := hs.1 z hz
        unfold lt at this ⊢; omega
end Go.AB
