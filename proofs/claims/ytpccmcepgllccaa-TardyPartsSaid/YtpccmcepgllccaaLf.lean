import Derived.Test.YtpccmcepgllccaaLa
set_option linter.unusedVariables false
namespace Go.AB
open Go
theorem nodup_le : ∀ (k : Nat) (o : List Int),o.Nodup → inR k o → o.length ≤ k
  | 0,[],_,_ => Nat.le_refl _
  | 0,x :: o,_,h => by have := h x (by simp); omega
  | k + 1,o,hn,h => by
    have := nodup_le k (o.erase (k : Int)) (hn.erase _) (fun x hx => by
      have h1 := h x (List.mem_of_mem_erase hx)
      have h2 : x ≠ (k : Int) := fun e => by
        subst e
        exact (List.Nodup.not_mem_erase hn) hx
      omega)
    have h3 : o.length - 1 ≤ (o.erase (k : Int)).length := by
      by_cases hm : (k : Int) ∈ o
      · rw [List.length_erase_of_mem hm]; exact Nat.le_refl _
      · rw [List.erase_of_not_mem hm]; omega
    omega
def srch (l : List R38) (most : Bool) : Nat → List Int → List Int → List Int
  | 0,now,best => if best = [] ∨ val l now most < val l best most then now else best
  | d + 1,now,best => foldN (fun i b => if (i : Int) ∈ now then b else srch l most d (now ++ [(i : Int)]) b) l.length best
def comp (l : List R38) (o : List Int) : Prop := ordB l.length o = true ∧ o.length = l.length
def okB (l : List R38) (b : List Int) : Prop := ordB l.length b = true ∧ b.length ≤ l.length
end Go.AB
