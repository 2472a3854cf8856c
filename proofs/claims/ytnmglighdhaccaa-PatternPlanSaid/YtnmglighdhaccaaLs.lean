import Derived.Test.YtnmglighdhaccaaLw
namespace Go.AB
open Go
def insR {α : Type} (lt : α → α → Bool) (x : α) : List α → List α
  | [] => [x]
  | p :: ps => if lt x p = true then p :: insR lt x ps else x :: p :: ps
def isr {α : Type} (lt : α → α → Bool) : List α → List α → List α
  | acc,[] => acc.reverse
  | acc,x :: xs => isr lt (insR lt x acc) xs
theorem insR_perm {α : Type} (lt : α → α → Bool) (x : α) : ∀ ps : List α,(insR lt x ps).Perm (x :: ps)
  | [] => .refl _
  | p :: ps => by
    unfold insR
    split
    · exact ((insR_perm lt x ps).cons p).trans (List.Perm.swap x p ps)
    · exact .refl _
theorem isr_perm {α : Type} (lt : α → α → Bool) : ∀ (xs acc : List α),(isr lt acc xs).Perm (acc ++ xs)
  | [],acc => by simp only [isr,List.append_nil]; exact List.reverse_perm acc
  | x :: xs,acc => by
    simp only [isr]
    refine (isr_perm lt xs _).trans (((insR_perm lt x acc).append_right xs).trans ?_)
    exact (List.perm_middle (l₁ := acc) (l₂ := xs) (a := x)).symm
theorem insR_len {α : Type} (lt : α → α → Bool) (x : α) (ps : List α) : (insR lt x ps).length = ps.length + 1 := (insR_perm lt x ps).length_eq
theorem isr_len {α : Type} (lt : α → α → Bool) (xs acc : List α) : (isr lt acc xs).length = acc.length + xs.length := by
  rw [(isr_perm lt xs acc).length_eq,List.length_append]
theorem insR_sorted {α : Type} {lt : α → α → Bool} {ok : α → Prop} (tr : ∀ a b c,ok a → ok b → ok c → lt a b = false → lt b c = false → lt a c = false)
    (as : ∀ a b,ok a → ok b → lt a b = true → lt b a = false) {x : α} (hx : ok x) : ∀ ps : List α,(∀ p,p ∈ ps → ok p) → ps.Pairwise (fun a b => lt a b = false) → (insR lt x ps).Pairwise fun a b => lt a b = false
  | [],_,_ => by simp [insR]
  | p :: ps,ho,h => by
    have hp := ho p (by simp)
    have ho' : ∀ q,q ∈ ps → ok q := fun q hq => ho q (List.mem_cons_of_mem _ hq)
    rw [List.pairwise_cons] at h
    unfold insR
    split
    · rename_i hlt
      rw [List.pairwise_cons]
      refine ⟨fun y hy => ?_,insR_sorted tr as hx ps ho' h.2⟩
      rcases List.mem_cons.1 ((insR_perm lt x ps).mem_iff.1 hy) with rfl | hy
      · exact as _ _ hx hp hlt
      · exact h.1 y hy
    · rename_i hlt
      have hf : lt x p = false := by simpa using hlt
      rw [List.pairwise_cons]
      refine ⟨fun y hy => ?_,List.pairwise_cons.2 h⟩
      rcases List.mem_cons.1 hy with rfl | hy
      · exact hf
      · exact tr _ _ _ hx hp (ho' y hy) hf (h.1 y hy)
theorem isr_sorted {α : Type} {lt : α → α → Bool} {ok : α → Prop} (tr : ∀ a b c,ok a → ok b → ok c → lt a b = false → lt b c = false → lt a c = false)
    (as : ∀ a b,ok a → ok b → lt a b = true → lt b a = false) : ∀ (xs acc : List α),(∀ p,p ∈ acc → ok p) → (∀ p,p ∈ xs → ok p) → acc.Pairwise (fun a b => lt a b = false) →
      (isr lt acc xs).Pairwise fun a b => lt b a = false
  | [],acc,_,_,h => by
    simp only [isr]
    rw [List.pairwise_reverse]
    exact h
  | x :: xs,acc,ha,hx,h => by
    simp only [isr]
    refine isr_sorted tr as xs _ (fun p hp => ?_) (fun p hp => hx p (List.mem_cons_of_mem _ hp)) (insR_sorted tr as (hx x (by simp)) acc ha h)
    rcases List.mem_cons.1 ((insR_perm lt x acc).mem_iff.1 hp) with rfl | hp
    · exact hx _ (by simp)
    · exact ha p hp
theorem at_mid {α : Type} (a : List α) (x : α) (b : List α) : (a ++ x :: b)[a.length]? = some x := by simp
theorem set_mid {α : Type} (a : List α) (x y : α) (b : List α) : (a ++ x :: b).set a.length y = a ++ y :: b := by simp [List.set_append]
theorem get_mid {α : Type} {a : List α} {x : α} {b : List α} {i : Int} (h : i = (a.length : Int)) : getIdx (a ++ x :: b) i = some x := getIdx_q h (at_mid a x b)
theorem put_mid {α : Type} {a : List α} {x y : α} {b : List α} {i : Int} (h : i = (a.length : Int)) : setIdx (a ++ x :: b) i y = some (a ++ y :: b) := by
  rw [setIdx_at h (by simp),set_mid]
end Go.AB
