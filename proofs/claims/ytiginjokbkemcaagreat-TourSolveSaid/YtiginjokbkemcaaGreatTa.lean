import Derived.KernelRfl
set_option linter.unusedVariables false
namespace Go.AB
def segC (c : Int → Int → Int) : List Int → Int
  | [] => 0
  | [_] => 0
  | a :: b :: t => c a b + segC c (b :: t)
theorem segC_cut (c : Int → Int → Int) (u v : Int) (B : List Int) : ∀ A : List Int,segC c (A ++ u :: v :: B) = segC c (A ++ [u]) + c u v + segC c (v :: B)
  | [] => by simp [segC]
  | [a] => by simp [segC]; omega
  | a :: b :: t => by
    have ih := segC_cut c u v B (b :: t)
    simp only [List.cons_append,segC] at ih ⊢
    rw [ih]; omega
def segsC (c : Int → Int → Int) : List (List Int) → Int
  | [] => 0
  | g :: t => segC c g + segsC c t
theorem segsC_append (c : Int → Int → Int) : ∀ a b,segsC c (a ++ b) = segsC c a + segsC c b
  | [],b => by simp [segsC]
  | g :: a,b => by simp only [List.cons_append,segsC,segsC_append c a b]; omega
inductive Prim (c : Int → Int → Int) (l : List Int) : List Int → Int → Prop
  | done {S : List Int} (h : ∀ x ∈ l,x ∈ S) : Prim c l S 0
  | step {S : List Int} {x : Int} {b r : Int} (hx : x ∈ l) (hS : x ∉ S) (hb : ∀ u ∈ l,u ∉ S → ∀ s ∈ S,b ≤ c u s) (h : Prim c l (S ++ [x]) r) : Prim c l S (b + r)
def OneIn (S g : List Int) : Prop := ∃ A s B,g = A ++ s :: B ∧ s ∈ S ∧ (∀ a ∈ A,a ∉ S) ∧ ∀ b ∈ B,b ∉ S
theorem OneIn.more {S g : List Int} {x : Int} (h : OneIn S g) (hx : x ∉ g) : OneIn (S ++ [x]) g := by
  obtain ⟨A,s,B,rfl,h1,h2,h3⟩ := h
  refine ⟨A,s,B,rfl,by simp [h1],fun a ha h => ?_,fun a ha h => ?_⟩
  · rcases List.mem_append.1 h with h | h
    · exact h2 a ha h
    · obtain rfl : a = x := by simpa using h
      exact hx (by simp [ha])
  · rcases List.mem_append.1 h with h | h
    · exact h3 a ha h
    · obtain rfl : a = x := by simpa using h
      exact hx (by simp [ha])
theorem OneIn.new {S g : List Int} {x : Int} (hx : x ∈ g) (hg : ∀ a ∈ g,a ∉ S) (hn : g.Nodup) : OneIn (S ++ [x]) g := by
  obtain ⟨A,B,rfl⟩ := List.append_of_mem hx
  have hn' := List.nodup_append.1 hn
  refine ⟨A,x,B,rfl,by simp,fun a ha h => ?_,fun a ha h => ?_⟩
  · rcases List.mem_append.1 h with h | h
    · exact hg a (by simp [ha]) h
    · obtain rfl : a = x := by simpa using h
      exact hn'.2.2 a ha a (by simp) rfl
  · rcases List.mem_append.1 h with h | h
    · exact hg a (by simp [ha]) h
    · obtain rfl : a = x := by simpa using h
      exact (List.nodup_cons.1 hn'.2.1).1 ha
theorem OneIn.cut {c : Int → Int → Int} (hc : ∀ a b,c a b = c b a) {S g l : List Int} {x : Int} {b : Int} (h : OneIn S g) (hgl : ∀ a ∈ g,a ∈ l) (hx : x ∈ g) (hxS : x ∉ S) (hn : g.Nodup)
    (hb : ∀ u ∈ l,u ∉ S → ∀ s ∈ S,b ≤ c u s) : ∃ g1 g2,g = g1 ++ g2 ∧ OneIn (S ++ [x]) g1 ∧ OneIn (S ++ [x]) g2 ∧ b + segC c g1 + segC c g2 ≤ segC c g := by
  obtain ⟨A,s,B,rfl,h1,h2,h3⟩ := h
  have hne : x ≠ s := fun e => hxS (e ▸ h1)
  have hn' := List.nodup_append.1 hn
  have hn2 := List.nodup_cons.1 hn'.2.1
  rcases List.mem_append.1 hx with hA | hB
  · obtain ⟨A',u,rfl⟩ : ∃ A' u,A = A' ++ [u] := ⟨A.dropLast,A.getLast (by rintro rfl; cases hA),(List.dropLast_concat_getLast _).symm⟩
    refine ⟨A' ++ [u],s :: B,rfl,OneIn.new hA h2 hn'.1,OneIn.more ⟨[],s,B,rfl,h1,(fun _ h => by cases h),h3⟩ (fun h => hn'.2.2 x hA x h rfl),?_⟩
    have e := segC_cut c u s B A'
    rw [List.append_assoc]
    show _ ≤ segC c (A' ++ u :: s :: B)
    have := hb u (hgl u (by simp)) (h2 u (by simp)) s h1
    rw [e]; omega
  · have hB' : x ∈ B := by
      rcases List.mem_cons.1 hB with h | h
      · exact absurd h hne
      · exact h
    cases B with
    | nil => cases hB'
    | cons u B =>
    have e := segC_cut c s u B A
    refine ⟨A ++ [s],u :: B,by simp,OneIn.more ⟨A,s,[],rfl,h1,h2,(fun _ h => by cases h)⟩ (fun h => ?_),OneIn.new hB' h3 hn2.2,?_⟩
    · rcases List.mem_append.1 h with h | h
      · exact hn'.2.2 x h x hB rfl
      · exact hne (by simpa using h)
    · have := hb u (hgl u (by simp)) (h3 u (by simp)) s h1
      rw [e,hc s u]; omega
theorem Prim.segs {c : Int → Int → Int} (hc : ∀ a b,c a b = c b a) {l : List Int} {S : List Int} {r : Int} (h : Prim c l S r) :
    ∀ gs : List (List Int),(∀ g ∈ gs,OneIn S g) → (∀ x ∈ l,x ∈ gs.flatten) → (∀ x ∈ gs.flatten,x ∈ l) → gs.flatten.Nodup → r ≤ segsC c gs := by
  induction h with
  | @done S hall =>
    intro gs h1 h2 h3 h4
    have : ∀ gs : List (List Int),(∀ g ∈ gs,OneIn S g) → (∀ x ∈ gs.flatten,x ∈ l) → segsC c gs = 0 := by
      intro gs
      induction gs with
      | nil => intros; rfl
      | cons g gs ih =>
        intro h1 h3
        obtain ⟨A,s,B,rfl,e1,e2,e3⟩ := h1 g (by simp)
        have hA : A = [] := List.eq_nil_iff_forall_not_mem.2 fun a ha => e2 a ha (hall a (h3 a (by simp [ha])))
        have hB : B = [] := List.eq_nil_iff_forall_not_mem.2 fun a ha => e3 a ha (hall a (h3 a (by simp [ha])))
        subst hA hB
        simp only [segsC,List.nil_append,segC,ih (fun g hg => h1 g (by simp [hg])) (fun x hx => h3 x (by simp [hx]))]
        rfl
    rw [this gs h1 h3]; exact Int.le_refl 0
  | @step S x b r hx hS hb hp ih =>
    intro gs h1 h2 h3 h4
    obtain ⟨g,hg,hxg⟩ := List.mem_flatten.1 (h2 x hx)
    obtain ⟨G1,G2,rfl⟩ := List.append_of_mem hg
    have hf : (G1 ++ g :: G2).flatten = G1.flatten ++ (g ++ G2.flatten) := by simp
    rw [hf] at h3 h4
    have n1 := List.nodup_append.1 h4
    have n2 := List.nodup_append.1 n1.2.1
    obtain ⟨g1,g2,e,o1,o2,hle⟩ := (h1 g hg).cut hc (l := l) (fun a ha => h3 a (by simp [ha])) hxg hS n2.1 hb
    have hf2 : (G1 ++ g1 :: g2 :: G2).flatten = G1.flatten ++ (g ++ G2.flatten) := by simp [e]
    have := ih (G1 ++ g1 :: g2 :: G2) (fun g' hg' => ?_) (fun y hy => by rw [hf2,← hf]; exact h2 y hy) (fun y hy => by rw [hf2] at hy; exact h3 y hy) (by rw [hf2]; exact h4)
    · rw [segsC_append] at this ⊢
      simp only [segsC] at this ⊢
      omega
    · have old : ∀ g',g' ∈ G1 ∨ g' ∈ G2 → OneIn (S ++ [x]) g' := fun g' hg' => by
        refine (h1 g' (by rcases hg' with h | h <;> simp [h])).more fun hxg' => ?_
        rcases hg' with h | h
        · exact n1.2.2 x (List.mem_flatten.2 ⟨g',h,hxg'⟩) x (by simp [hxg]) rfl
        · exact n2.2.2 x hxg x (List.mem_flatten.2 ⟨g',h,hxg'⟩) rfl
      rcases List.mem_append.1 hg' with h | h
      · exact old g' (.inl h)
      · rcases List.mem_cons.1 h with rfl | h
        · exact o1
        · rcases List.mem_cons.1 h with rfl | h
          · exact o2
          · exact old g' (.inr h)
theorem Prim.path {c : Int → Int → Int} (hc : ∀ a b,c a b = c b a) {l o : List Int} {s : Int} {r : Int} (h : Prim c l [s] r) (hs : s ∈ l) (hlo : ∀ x,x ∈ l ↔ x ∈ o) (hn : o.Nodup) : r ≤ segC c o := by
  have := h.segs hc [o] (fun g hg => ?_) (fun x hx => by simp [(hlo x).1 hx]) (fun x hx => (hlo x).2 (by simpa using hx)) (by simpa using hn)
  · simp only [segsC] at this; omega
  · obtain rfl : g = o := by simpa using hg
    obtain ⟨A,B,rfl⟩ := List.append_of_mem ((hlo s).1 hs)
    have n1 := List.nodup_append.1 hn
    refine ⟨A,s,B,rfl,by simp,fun a ha h => ?_,fun a ha h => ?_⟩
    · obtain rfl : a = s := by simpa using h
      exact n1.2.2 a ha a (by simp) rfl
    · obtain rfl : a = s := by simpa using h
      exact (List.nodup_cons.1 n1.2.1).1 ha
theorem nodup_le : ∀ {l S : List Int},l.Nodup → (∀ x ∈ l,x ∈ S) → l.length ≤ S.length
  | [],S,_,_ => Nat.zero_le _
  | a :: l,S,hn,h => by
    have h1 := List.nodup_cons.1 hn
    have ha : a ∈ S := h a (by simp)
    have := nodup_le (l := l) (S := S.erase a) h1.2 fun x hx => by
      have hne : x ≠ a := fun e => h1.1 (e ▸ hx)
      exact (List.mem_erase_of_ne hne).2 (h x (by simp [hx]))
    rw [List.length_erase_of_mem ha] at this
    have : 0 < S.length := List.length_pos_of_mem ha
    simp only [List.length_cons]; omega
theorem nodup_all {l S : List Int} (hS : S.Nodup) (hSl : ∀ x ∈ S,x ∈ l) (h : l.length ≤ S.length) : ∀ x ∈ l,x ∈ S := by
  intro x hx
  by_cases hxS : x ∈ S
  · exact hxS
  · have := nodup_le (l := x :: S) (S := l) (List.nodup_cons.2 ⟨hxS,hS⟩) (fun y hy => by
      rcases List.mem_cons.1 hy with rfl | hy
      · exact hx
      · exact hSl y hy)
    simp at this; omega
theorem nodup_more {l S : List Int} (hl : l.Nodup) (h : S.length < l.length) : ∃ x,x ∈ l ∧ x ∉ S := by
  refine Classical.byContradiction fun hc => ?_
  have := nodup_le (l := l) (S := S) hl fun x hx => Classical.byContradiction fun hS => hc ⟨x,hx,hS⟩
  omega
def IsPick (c : Int → Int → Int) (l S : List Int) (b : Int) (x : Int) : Prop :=
  ∃ l1 l2,l = l1 ++ x :: l2 ∧ x ∉ S ∧ (∃ s,s ∈ S ∧ b = c x s) ∧ (∀ u ∈ l,u ∉ S → ∀ s ∈ S,b ≤ c u s) ∧ ∀ u ∈ l1,u ∉ S → ∀ s ∈ S,b < c u s
theorem IsPick.uniq {c : Int → Int → Int} {l S : List Int} {b b' x x' : Int} (h : IsPick c l S b x) (h' : IsPick c l S b' x') : b = b' ∧ x = x' := by
  obtain ⟨l1,l2,e,hx,⟨s,hs,hb⟩,h1,h2⟩ := h
  obtain ⟨l1',l2',e',hx',⟨s',hs',hb'⟩,h1',h2'⟩ := h'
  have q1 := h1 x' (by rw [e']; simp) hx' s' hs'
  have q2 := h1' x (by rw [e]; simp) hx s hs
  have hbb : b = b' := by omega
  refine ⟨hbb,?_⟩
  rw [e] at e'
  rcases List.append_eq_append_iff.1 e' with ⟨a,e1,e2⟩ | ⟨a,e1,e2⟩
  · cases a with
    | nil => simp at e2; exact e2.1
    | cons y a =>
      simp only [List.cons_append,List.cons.injEq] at e2
      have := h2' x (by rw [e1,e2.1]; simp) hx s hs
      omega
  · cases a with
    | nil => simp at e2; exact e2.1.symm
    | cons y a =>
      simp only [List.cons_append,List.cons.injEq] at e2
      have := h2 x' (by rw [e1,e2.1]; simp) hx' s' hs'
      omega
theorem IsPick.mem {c : Int → Int → Int} {l S : List Int} {b x : Int} (h : IsPick c l S b x) : x ∈ l := by
  obtain ⟨l1,l2,e,_⟩ := h
  rw [e]; simp
inductive PrimR (c : Int → Int → Int) (l : List Int) : List Int → Nat → Int → Prop
  | done {S : List Int} : PrimR c l S 0 0
  | step {S : List Int} {x b r : Int} {k : Nat} (hp : IsPick c l S b x) (h : PrimR c l (S ++ [x]) k r) : PrimR c l S (k + 1) (b + r)
theorem PrimR.uniq {c : Int → Int → Int} {l S : List Int} {k : Nat} {r r' : Int} (h : PrimR c l S k r) (h' : PrimR c l S k r') : r = r' := by
  induction h generalizing r' with
  | done => cases h'; rfl
  | step hp _ ih =>
    cases h' with
    | step hp' h' =>
      obtain ⟨rfl,rfl⟩ := hp.uniq hp'
      rw [ih h']
theorem PrimR.prim {c : Int → Int → Int} {l S : List Int} {k : Nat} {r : Int} (h : PrimR c l S k r) (hS : S.Nodup) (hSl : ∀ x ∈ S,x ∈ l) (hk : S.length + k = l.length) : Prim c l S r := by
  induction h with
  | @done S => exact .done (nodup_all hS hSl (by omega))
  | @step S x b r k hp h ih =>
    obtain ⟨l1,l2,e,hx,hb,h1,h2⟩ := id hp
    refine .step hp.mem hx h1 (ih ?_ (fun y hy => ?_) (by simp; omega))
    · refine List.nodup_append.2 ⟨hS,by simp,fun a ha b hb => ?_⟩
      obtain rfl : b = x := by simpa using hb
      exact fun e => hx (e ▸ ha)
    · rcases List.mem_append.1 hy with hy | hy
      · exact hSl y hy
      · obtain rfl : y = x := by simpa using hy
        exact hp.mem
end Go.AB
