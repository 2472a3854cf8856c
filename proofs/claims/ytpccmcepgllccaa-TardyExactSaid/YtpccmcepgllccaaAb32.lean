/-
  AB, part 32: the rules of iterators and of ranges over functions, as they are printed.
-/
import Derived.Test.YtpccmcepgllccaaAb31
namespace Go.AB
open Go

section
variable {E : Type} {P : Program} {N : Nat} {ι0 : Tags} {xs : List E} {Zs Zb : Nat → Prop} {J : List E → (Nat → Prop) → (Nat → Prop) → World → Prop} {Jx : (Nat → Prop) → (Nat → Prop) → World → Prop} {A : Array Oper} {ol : List Oper} {s : St}

/-- yield, under a guard (not e) -/
theorem ARunY.yG {l : Nat} {vals : E → List AV} {dst : Nat} {y : Operand} {args : Array Operand} {ats : Array TypeId} {ty : TypeId} {p : String} {ed : Array Edge} {j : Nat} {want e : Bool} {x : E} {r rest : List E} {m : Option (List E)} {s' : Bool → St}
    (hJ : ∀ pre, Abide (J pre)) (hJx : Abide Jx) (hR : RoundOk P l vals xs Zs Zb J Jx) (hyr : (e = false → r = x :: rest ∧ m = some rest) ∧ (e = true → r = []))
    (hw : ∀ d ι a w, Rel ((itFam P N ι0 xs Zs Zb J Jx).cx d) s ι a w → (yielded A a.tmps j == some want) = !e) (hd : dst < N)
    (hy : e = false → ∀ d, Ev ((itFam P N ι0 xs Zs Zb J Jx).cx d) s y (.sc (.func (.yield l) #[] #[]))) (ha : e = false → ∀ d, EvV ((itFam P N ι0 xs Zs Zb J Jx).cx d) s args.toList (vals x))
    (t : ∀ b d, ARun ((itFam P N ι0 xs Zs Zb J Jx).cx d) A ol (s.put dst (.gd (!e) (.sc (.bool b)))) (s' b)) :
    ARunY (itFam P N ι0 xs Zs Zb J Jx) A (⟨some dst, .call { callee := .value y, args := args, argTypes := ats }, ty, p, ed, some (j, want)⟩ :: ol) (some r) s (fun b => (ghY e b r rest, s' b)) := by
  refine ARunY.gyield hw (fun _ => hd) (fun hc d ι a w K Q hH rel hk => ?_) (fun hc => ?_) t
  · have he : e = false := by cases e <;> simp_all
    obtain ⟨rfl, _⟩ := hyr.1 he
    refine yieldStep hJ hJx hR hd (hy he) (ha he) K Q hH rel fun b d' ι' a' w' hH' r' => hk b d' ι' a' w' ?_ r'
    simp only [ghY, he]
    exact hH'
  · have he : e = true := by cases e <;> simp_all
    simp [ghY, he]
/-- yield, always -/
theorem ARunY.y0 {l : Nat} {vals : E → List AV} {dst : Nat} {y : Operand} {args : Array Operand} {ats : Array TypeId} {ty : TypeId} {p : String} {ed : Array Edge} {x : E} {r rest : List E} {m : Option (List E)} {s' : Bool → St}
    (hJ : ∀ pre, Abide (J pre)) (hJx : Abide Jx) (hR : RoundOk P l vals xs Zs Zb J Jx) (hyr : (false = false → r = x :: rest ∧ m = some rest) ∧ (false = true → r = [])) (hd : dst < N)
    (hy : ∀ d, Ev ((itFam P N ι0 xs Zs Zb J Jx).cx d) s y (.sc (.func (.yield l) #[] #[]))) (ha : ∀ d, EvV ((itFam P N ι0 xs Zs Zb J Jx).cx d) s args.toList (vals x))
    (t : ∀ b d, ARun ((itFam P N ι0 xs Zs Zb J Jx).cx d) A ol (s.put dst (.sc (.bool b))) (s' b)) :
    ARunY (itFam P N ι0 xs Zs Zb J Jx) A (⟨some dst, .call { callee := .value y, args := args, argTypes := ats }, ty, p, ed, none⟩ :: ol) (some r) s (fun b => (ghY false b r rest, s' b)) := by
  refine ARunY.yield (fun d ι a w K Q hH rel hk => ?_) t
  obtain ⟨rfl, _⟩ := hyr.1 rfl
  refine yieldStep hJ hJx hR hd hy ha K Q hH rel fun b d' ι' a' w' hH' r' => hk b d' ι' a' w' ?_ r'
  simp only [ghY]
  exact hH'
end

def rangeB (σ : Nat → Nat) (D1 D2 : List Nat) : Bool := (D1.all fun a => D1.all fun b => !(Nat.beq (σ a) (σ b)) || Nat.beq a b) && D2.all fun t => !(anyT (D1.map σ) t)
def tagB (KB : List Nat) (env : List (Nat × AV)) : Bool := env.all fun p => p.2.tags.all fun t => anyT KB t
theorem mem_of_look {t : Nat} {v : AV} : ∀ {l : List (Nat × AV)}, look t l = some v → (t, v) ∈ l
  | [], h => by cases h
  | (k, u) :: l, h => by
    by_cases e : t = k
    · subst e
      rw [look_cons_self] at h
      cases h
      exact List.mem_cons_self
    · rw [look_cons_ne e] at h
      exact List.mem_cons_of_mem _ (mem_of_look h)

section
variable {P : Program} {N : Nat} {ι0 : Tags} {w00 : World} {Zs0 Zb0 T00 : Nat → Prop}
theorem AWPF.range' {σx R E : Type} {r : R} {Q : Exit → Option R → St → Prop} {s : St} {g : Operand} {ps : Array Nat} {assign body : Code} {f : FuncId} {avs cs : List AV} {H : List (Nat × Blk)} {vals : E → List AV} {xs : List E} {σ : Nat → Nat}
    {Hp : σx → List (Nat × Blk)} {Hb : E → σx → List (Nat × Blk)} {step : (σx → Option R) → E → σx → Option R} {k : σx → Option R} {env : List (Nat × AV)} {x0 : σx} {KB : List Nat} {envb : E → σx → List (Nat × AV)} {M : Exit → σx → Prop}
    (hS : ItSpec P f avs H vals xs) (hg : ∀ d, Ev ((rgFam P N ι0 r w00 Zs0 Zb0 T00).cx d) s g (.clo (.func f) [] cs)) (hcs : ∀ d, CvL ((rgFam P N ι0 r w00 Zs0 Zb0 T00).cx d) s σ H false cs avs)
    (hH : AllH (fun t k => look (σ t) s.heap = some (renB σ k)) H) (hb : rangeB σ (dom H) (dom (Hp x0)) = true) (hHp : SubH (Hp x0) s.heap) (henv : SubE env s.env) (htag : tagB KB env = true)
    (hx : rangeL step xs k x0 = some r) (hB : ∀ l, BodyOk P N l KB env Hp Hb step r vals ps assign body envb M)
    (hk : ∀ x, k x = some r → Q .normal (some r) ⟨env, Hp x⟩) (hstop : ∀ e x, M e x → Q e (some r) ⟨env, Hp x⟩) :
    AWPF (rgFam P N ι0 r w00 Zs0 Zb0 T00) (.rangeFunc g ps assign body) Q (some r) s := by
  simp only [rangeB, Bool.and_eq_true, List.all_eq_true] at hb
  refine AWPF.range hS hg hcs (fun t k hl => hH.at hl) (fun a b ha hb' e => ?_) (fun t kk h => hHp.look h) (fun t ht hm => ?_) (fun t v h => henv.look h) (fun t v h t' hf => ?_) hx hB hk hstop
  · have := hb.1 a ha b hb'
    rw [e] at this
    simp only [Nat.beq_refl, Bool.not_true, Bool.false_or, Nat.beq_eq] at this
    exact this
  · have := hb.2 t (has_dom.1 ht)
    rw [anyT_iff.2 hm] at this
    cases this
  · unfold tagB at htag
    rw [List.all_eq_true] at htag
    have h1 := htag (t, v) (mem_of_look h)
    rw [List.all_eq_true] at h1
    exact anyT_iff.1 (h1 t' (AV.tags_of_free hf))
/-- the same, whatever name the ghost goes by -/
theorem AWPF.rangeG {σx R E : Type} {r r1 : R} {Q : Exit → Option R → St → Prop} {s : St} {g : Operand} {ps : Array Nat} {assign body : Code} {f : FuncId} {avs cs : List AV} {H : List (Nat × Blk)} {vals : E → List AV} {xs : List E} {σ : Nat → Nat}
    {Hp : σx → List (Nat × Blk)} {Hb : E → σx → List (Nat × Blk)} {step : (σx → Option R) → E → σx → Option R} {k : σx → Option R} {env : List (Nat × AV)} {x0 : σx} {KB : List Nat} {envb : E → σx → List (Nat × AV)} {M : Exit → σx → Prop}
    (hS : ItSpec P f avs H vals xs) (hg : ∀ d, Ev ((rgFam P N ι0 r w00 Zs0 Zb0 T00).cx d) s g (.clo (.func f) [] cs)) (hcs : ∀ d, CvL ((rgFam P N ι0 r w00 Zs0 Zb0 T00).cx d) s σ H false cs avs)
    (hH : AllH (fun t k => look (σ t) s.heap = some (renB σ k)) H) (hb : rangeB σ (dom H) (dom (Hp x0)) = true) (hHp : SubH (Hp x0) s.heap) (henv : SubE env s.env) (htag : tagB KB env = true)
    (hx : rangeL step xs k x0 = some r1) (hB : ∀ l, BodyOk P N l KB env Hp Hb step r1 vals ps assign body envb M)
    (hk : ∀ x, k x = some r1 → Q .normal (some r1) ⟨env, Hp x⟩) (hstop : ∀ e x, M e x → Q e (some r1) ⟨env, Hp x⟩) :
    AWPF (rgFam P N ι0 r w00 Zs0 Zb0 T00) (.rangeFunc g ps assign body) Q (some r1) s := by
  intro d ι a w hR rel
  obtain rfl := Option.some.inj hR.g
  exact AWPF.range' hS hg hcs hH hb hHp henv htag hx hB hk hstop d ι a w hR rel
end
end Go.AB
namespace Go.AB
theorem notT {e : Bool} (h : e = false) : (!e) = true := by simp [h]
end Go.AB
