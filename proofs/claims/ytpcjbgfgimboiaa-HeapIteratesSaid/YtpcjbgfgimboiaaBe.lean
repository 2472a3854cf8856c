import Derived.Test.YtpcjbgfgimboiaaBd
import Derived.Laws.CopyRow
import Derived.Laws.IdiomCopy
namespace Go.AB
open Go
theorem jnE {α β : Type} {f : α} {g : α → Option β} {r : β} (h : jn f g = some r) : ∃ k,k = f ∧ g k = some r := ⟨f,rfl,h⟩
def yPhi {E X : Type} (tail : List E) : Option (List E × X) → Option (List E) := Option.map fun q => q.1 ++ tail
def yPsi {E X : Type} (x : X) (g : Option (List E × X)) : Prop := ∀ q,g = some q → q.2 = x
abbrev cxY (P : Program) (N : Nat) (K : List Nat) (ι0 : Tags) (d : ItD) : Ctx := ⟨P,none,N,[],d.w0,d.Zs,d.Zb,d.T0,K,ι0⟩
def yFam {E X : Type} (P : Program) (N : Nat) (K : List Nat) (ι0 : Tags) (xs tail : List E) (x : X) (Zs Zb : Nat → Prop) (J : List E → (Nat → Prop) → (Nat → Prop) → World → Prop) (Jx : (Nat → Prop) → (Nat → Prop) → World → Prop) : Fam (Option (List E × X)) where
  D := ItD
  P := P
  r := none
  cx d := cxY P N K ι0 d
  H g d := ItH xs Zs Zb J Jx (yPhi tail g) d ∧ yPsi x g
  hP _ := rfl
  hr _ := rfl
section
variable {E X : Type} {P : Program} {N : Nat} {K : List Nat} {ι0 : Tags} {xs tail : List E} {xf : X} {Zs Zb : Nat → Prop} {J : List E → (Nat → Prop) → (Nat → Prop) → World → Prop} {Jx : (Nat → Prop) → (Nat → Prop) → World → Prop}
theorem ItH.nowC {g : Option (List E)} {d : ItD}
    (h : ItH xs Zs Zb J Jx g d) (hJ : ∀ pre,Abide (J pre)) (hJx : Abide Jx) {s : St} {ι : Tags} {a : Act} {w : World} (r : Rel ⟨P,none,N,[],d.w0,d.Zs,d.Zb,d.T0,K,ι0⟩ s ι a w) :
    ItH xs Zs Zb J Jx g ⟨w,fun b => zone ⟨P,none,N,[],d.w0,d.Zs,d.Zb,d.T0,K,ι0⟩ s.heap ι w false b,fun b => zone ⟨P,none,N,[],d.w0,d.Zs,d.Zb,d.T0,K,ι0⟩ s.heap ι w true b,ownedBy s.heap ι,
      fun b => d.I b ∨ (d.w0.heap.size ≤ b ∧ b < w.heap.size)⟩ := by
  have hO : ∀ b,ownedBy s.heap ι b → d.T0 b ∨ d.w0.heap.size ≤ b := by
    rintro b ⟨t,ht,e⟩
    exact (r.core.own t b ht e).symm
  have hOlt : ∀ b,ownedBy s.heap ι b → b < w.heap.size := fun b hb => r.core.lt hb
  refine ⟨?_,fun b hb => ?_,fun b hb => ?_,fun b hb => ?_,fun b hb => ?_⟩
  · have hp := h.past
    cases g with
    | none => exact hJx _ _ _ _ _ _ hp r.core.tr hO (fun b => Iff.rfl)
    | some rest =>
      obtain ⟨pre,e,hj⟩ := hp
      exact ⟨pre,e,hJ pre _ _ _ _ _ _ hj r.core.tr hO (fun b => Iff.rfl)⟩
  · rcases hO b hb with h1 | h1
    · exact .inl (h.own b h1)
    · exact .inr ⟨h1,hOlt b hb⟩
  · rcases hb with hb | hb
    · exact Nat.lt_of_lt_of_le (h.lt b hb) r.core.tr.size
    · exact hb.2
  · obtain ⟨z1,_,z3⟩ := hb
    rcases z3 with ⟨h1,_⟩ | h1 | h1 | h1
    · cases h1
    · rcases h.zs b h1 with h2 | h2
      · exact .inl h2
      · exact .inr (.inl h2)
    · exact .inr (.inr ⟨h1,z1⟩)
    · exact .inr (.inl (h.own b h1))
  · obtain ⟨z1,_,z3⟩ := hb
    rcases z3 with ⟨_,h1⟩ | h1 | h1 | h1
    · rcases h.zb b h1 with h2 | h2 | h2
      · exact .inl h2
      · exact .inr (.inl h2)
      · exact .inr (.inr (.inl h2))
    · rcases h.zs b h1 with h2 | h2
      · exact .inr (.inl h2)
      · exact .inr (.inr (.inl h2))
    · exact .inr (.inr (.inr ⟨h1,z1⟩))
    · exact .inr (.inr (.inl (h.own b h1)))
def YSpec (P : Program) (l : Nat) (f : FuncId) (K : List Nat) (avs : List AV) (H : List (Nat × Blk)) (vals : E → List AV) (ys : List E) (Hf : X → List (Nat × Blk)) (x : X) : Prop :=
  callable P f ∧ ∀ (Zs Zb : Nat → Prop) (ι : Tags) (w : World) (vs : List Value) (N : Nat) (dfr : List Deferred) (ro : Option Nat),
    Core ⟨P,ro,N,dfr,w,Zs,Zb,ownedBy H ι,K,ι⟩ H ι w → VRs w (zone ⟨P,ro,N,dfr,w,Zs,Zb,ownedBy H ι,K,ι⟩ H ι w) ι avs vs →
    ∀ (xs pre tail : List E) (J : List E → (Nat → Prop) → (Nat → Prop) → World → Prop) (Jx : (Nat → Prop) → (Nat → Prop) → World → Prop),(∀ pre,Abide (J pre)) → Abide Jx → RoundOk P l vals xs Zs Zb J Jx →
    xs = pre ++ (ys ++ tail) → J pre (ownedBy H ι) (ownedBy H ι) w →
    CallsIn (Fc none) 0 P f vs.toArray w fun e w' => ∃ (b : Bool) (x' : X) (ι' : Tags) (Zs' Zb' I' : Nat → Prop),e = .returned (.bool b) ∧ (b = true → x' = x) ∧
      Core ⟨P,ro,N,dfr,w',Zs',Zb',ownedBy (Hf x') ι',K,ι'⟩ (Hf x') ι' w' ∧ (∀ t,t ∈ K → ι' t = ι t) ∧
      ItH xs Zs Zb J Jx (if b = true then some tail else none) ⟨w',Zs',Zb',ownedBy (Hf x') ι',I'⟩
theorem YSpec.of {l : Nat} {f : FuncId} {fn : Func} {c : Code} {avs : List AV} {H : List (Nat × Blk)} {vals : E → List AV} {ys : List E} {Hf : X → List (Nat × Blk)} (hf : P.funcs[f]? = some fn) (hnt : fn.ntmps = N) (hb : fn.body = some c)
    (hc : (fn.name == "runtime.NumGoroutine") = false) (hN : avs.length ≤ N)
    (h : ∀ ι0 xs tail Zs Zb J Jx,(∀ pre,Abide (J pre)) → Abide Jx → RoundOk P l vals xs Zs Zb J Jx →
      AWPF (yFam P N K ι0 xs tail xf Zs Zb J Jx) c (fun e g s => (e = .ret ∨ e = .normal) ∧ ((∃ x',g = some ([],x') ∧ ∀ w0 Zs Zb T0,Res ⟨P,none,N,[],w0,Zs,Zb,T0,K,ι0⟩ fn s (.sc (.bool true)) (Hf x')) ∨
        (g = none ∧ ∃ x',∀ w0 Zs Zb T0,Res ⟨P,none,N,[],w0,Zs,Zb,T0,K,ι0⟩ fn s (.sc (.bool false)) (Hf x')))) (some (ys,xf)) ⟨enum 0 avs,H⟩) : YSpec P l f K avs H vals ys Hf xf := by
  subst hnt
  refine ⟨⟨fn,hf,by simp [hb],hc⟩,fun Zs Zb ι w vs N dfr ro hcore hvs xs pre tail J Jx hJ hJx hR exs h0 => ?_⟩
  obtain ⟨hl,hv⟩ := hvs
  have hw := h ι xs tail Zs Zb J Jx hJ hJx hR ⟨w,Zs,Zb,ownedBy H ι,ownedBy H ι⟩ ι { tmps := vs.toArray ++ Array.replicate (fn.ntmps - vs.toArray.size) undef,defers := [] } w
    ⟨⟨⟨pre,exs,h0⟩,fun _ h => h,fun b hb => hcore.lt hb,fun _ h => .inl h,fun _ h => .inl h⟩,fun q hq => by cases hq; rfl⟩ ?_
  · refine callsIn_of_wp hf hb trivial (wpIn_mono hw fun e a' w' ⟨g,s',d',ι',hH',r',he,hg⟩ => ?_)
    have fin : ∀ (b : Bool) (x' : X),(b = true → x' = xf) → yPhi tail g = (if b = true then some tail else none) → (∀ w0 Zs Zb T0,Res ⟨P,none,fn.ntmps,[],w0,Zs,Zb,T0,K,ι⟩ fn s' (.sc (.bool b)) (Hf x')) →
        bodyPost P fn (fun e w' => ∃ (b : Bool) (x' : X) (ι' : Tags) (Zs' Zb' I' : Nat → Prop),e = Ending.returned (.bool b) ∧ (b = true → x' = xf) ∧
          Core ⟨P,ro,N,dfr,w',Zs',Zb',ownedBy (Hf x') ι',K,ι'⟩ (Hf x') ι' w' ∧ (∀ t,t ∈ K → ι' t = ι t) ∧
          ItH xs Zs Zb J Jx (if b = true then some tail else none) ⟨w',Zs',Zb',ownedBy (Hf x') ι',I'⟩) .normal a' w' := by
      intro b x' hbx hphi hres
      obtain ⟨v,ι2,q1,q2,q3,q4,q5⟩ := hres _ _ _ _ ι' a' w' r'
      have hv : v = .bool b := by
        generalize hvb : AV.sc (.bool b) = y at q4
        cases q4 <;> cases hvb
        rfl
      subst hv
      refine ⟨q2,_,q1,b,x',ι2,fun b => zone ((yFam P fn.ntmps K ι xs tail xf Zs Zb J Jx).cx d') (Hf x') ι2 w' false b,fun b => zone ((yFam P fn.ntmps K ι xs tail xf Zs Zb J Jx).cx d') (Hf x') ι2 w' true b,fun b => d'.I b ∨ (d'.w0.heap.size ≤ b ∧ b < w'.heap.size),
        rfl,hbx,⟨fun t k hk => ?_,q3.inj,fun t b ht e => .inr ⟨t,ht,e⟩,Trans.refl _ _⟩,q5,?_⟩
      · have hZ : ∀ β b,zone ((yFam P fn.ntmps K ι xs tail xf Zs Zb J Jx).cx d') (Hf x') ι2 w' β b → zone ⟨P,ro,N,dfr,w',fun b => zone ((yFam P fn.ntmps K ι xs tail xf Zs Zb J Jx).cx d') (Hf x') ι2 w' false b,fun b => zone ((yFam P fn.ntmps K ι xs tail xf Zs Zb J Jx).cx d') (Hf x') ι2 w' true b,ownedBy (Hf x') ι2,K,ι2⟩ (Hf x') ι2 w' β b := by
          intro β b hz
          refine ⟨hz.1,hz.2.1,?_⟩
          cases β with
          | true => exact .inl ⟨rfl,hz⟩
          | false => exact .inr (.inl hz)
        have h0 := q3.blk t k hk
        unfold BlkR at h0 ⊢
        cases hx : ι2 t with
        | none => simp only [hx] at h0 ⊢; exact h0
        | some b =>
          simp only [hx] at h0 ⊢
          obtain ⟨cur,p1,p2,p3⟩ := h0
          refine ⟨cur,p1,p2,fun i hi => ?_⟩
          obtain ⟨u,hu,hvv⟩ := p3 i hi
          refine ⟨u,hu,hvv.mono (fun _ _ h => h) _ _ ?_ (fun _ _ _ _ _ h => h) (fun _ _ _ h => h)⟩
          cases k.lst with
          | true => exact fun _ b hb => hZ _ _ hb
          | false => exact hZ
      · have hn := ItH.nowC hH'.1 hJ hJx r'
        have hO : ∀ b,ownedBy (Hf x') ι2 b → d'.T0 b ∨ d'.w0.heap.size ≤ b := fun b ⟨t,ht,e⟩ => (q3.own t b ht e).symm
        have hOlt : ∀ b,ownedBy (Hf x') ι2 b → b < w'.heap.size := fun b hb => q3.lt hb
        refine ⟨?_,fun b hb => ?_,hn.lt,fun b hb => ?_,fun b hb => ?_⟩
        · have hp := hH'.1.past
          rw [hphi] at hp
          cases b with
          | true =>
            obtain ⟨pre,e,hj⟩ := hp
            exact ⟨pre,e,hJ pre _ _ _ _ _ _ hj q3.tr hO (fun b => Iff.rfl)⟩
          | false => exact hJx _ _ _ _ _ _ hp q3.tr hO (fun b => Iff.rfl)
        · rcases hO b hb with h1 | h1
          · exact .inl (hH'.1.own b h1)
          · exact .inr ⟨h1,hOlt b hb⟩
        · obtain ⟨z1,_,z3⟩ := hb
          rcases z3 with ⟨h1,_⟩ | h1 | h1 | h1
          · cases h1
          · rcases hH'.1.zs b h1 with h2 | h2
            · exact .inl h2
            · exact .inr (.inl h2)
          · exact .inr (.inr ⟨h1,z1⟩)
          · exact .inr (.inl (hH'.1.own b h1))
        · obtain ⟨z1,_,z3⟩ := hb
          rcases z3 with ⟨_,h1⟩ | h1 | h1 | h1
          · rcases hH'.1.zb b h1 with h2 | h2 | h2
            · exact .inl h2
            · exact .inr (.inl h2)
            · exact .inr (.inr (.inl h2))
          · rcases hH'.1.zs b h1 with h2 | h2
            · exact .inr (.inl h2)
            · exact .inr (.inr (.inl h2))
          · exact .inr (.inr (.inr ⟨h1,z1⟩))
          · exact .inr (.inr (.inl (hH'.1.own b h1)))
    rcases he with rfl | rfl
    all_goals
      rcases hg with ⟨x',rfl,hres⟩ | ⟨rfl,x',hres⟩
      · exact fin true x' (fun _ => hH'.2 ([],x') rfl) (by simp [yPhi]) hres
      · exact fin false x' (fun h => by cases h) rfl hres
  · refine ⟨by show _ = fn.ntmps; simp [hl]; omega,rfl,?_,⟨hcore.blk,hcore.inj,hcore.own,hcore.tr⟩,fun _ _ => rfl⟩
    intro d v hlk
    rw [look_enum] at hlk
    simp only [Nat.zero_le,if_true,Nat.sub_zero] at hlk
    have hd := (List.getElem?_eq_some_iff.1 hlk).1
    obtain ⟨u,hu,hvr⟩ := hv d hd
    have he : avs[d] = v := by rw [List.getElem?_eq_getElem hd] at hlk; exact Option.some.inj hlk
    rw [he] at hvr
    have : (vs.toArray ++ Array.replicate (fn.ntmps - vs.toArray.size) undef).getD d undef = u := by
      rw [Array.getD_eq_getD_getElem?,Array.getElem?_append_left (by simp; omega)]
      simp [hu]
    simp only [this]
    exact hvr
end
def ARunO {R ω : Type} (φ : Fam (Option R)) (A : Array Oper) (l : List Oper) (g : Option R) (s : St) (OK : ω → Prop) (S : ω → Option R × St) : Prop :=
  ∀ d ι a w (Q : Exit → Act → World → Prop),φ.H g d → Rel (φ.cx d) s ι a w → (∀ o d' ι' a' w',OK o → φ.H (S o).1 d' → Rel (φ.cx d') (S o).2 ι' a' w' → Q .normal a' w') → wpListIn (Fc φ.r) 0 φ.P A Q l a w
section
variable {R ω : Type} {φ : Fam (Option R)} {A : Array Oper} {l : List Oper} {g : Option R} {s s1 s2 : St} {OK : ω → Prop} {S : ω → Option R × St}
theorem ARunO.vc (h : ∀ d,VC (φ.cx d) s s1) (t : ARunO φ A l g s1 OK S) : ARunO φ A l g s OK S := fun d ι a w Q hH r hq =>
  let ⟨ι',r'⟩ := h d ι a w r; t d ι' a w Q hH r' hq
theorem ARunO.cons {dst : Option Nat} {op : Op} {ty : TypeId} {p : String} {e : Array Edge} (h : ∀ d,AStep (φ.cx d) ⟨dst,op,ty,p,e,none⟩ s s1) (t : ARunO φ A l g s1 OK S) :
    ARunO φ A (⟨dst,op,ty,p,e,none⟩ :: l) g s OK S := fun d ι a w Q hH r hq => by
  refine wpListIn_plain rfl fun K hK => ?_
  have := h d ι a w K Q r fun ι' a' w' r' => hK _ _ (t d ι' a' w' Q hH r' hq)
  rw [φ.hP,φ.hr] at this
  exact this
theorem ARunO.guardC {dst : Nat} {op : Op} {ty : TypeId} {p : String} {e : Array Edge} {j : Nat} {want c : Bool} {v : AV}
    (hw : ∀ d ι a w,Rel (φ.cx d) s ι a w → (yielded A a.tmps j == some want) = c) (hd : ∀ d,dst < (φ.cx d).N)
    (h : c = true → ∀ d,AStep (φ.cx d) ⟨some dst,op,ty,p,e,some (j,want)⟩ s (s.put dst v))
    (t : ARunO φ A l g (s.put dst (.gd c v)) OK S) : ARunO φ A (⟨some dst,op,ty,p,e,some (j,want)⟩ :: l) g s OK S := fun d ι a w Q hH r hq => by
  refine wpListIn_step fun K hK => ?_
  have hw : Region.wanted ⟨some dst,op,ty,p,e,some (j,want)⟩ (yielded A a.tmps) = c := hw d ι a w r
  rw [hw]
  by_cases hg : c = true
  · rw [if_pos hg]
    have := h hg d ι a w K Q r fun ι' a' w' r' => hK _ _ (t d ι' a' w' Q hH ?_ hq)
    · rw [φ.hP,φ.hr] at this
      exact this
    · refine ⟨r'.size,r'.dfr,?_,r'.core,r'.stab⟩
      intro d' v' hl
      by_cases ed : d' = dst
      · subst ed
        simp only [St.put,look_cons_self] at hl
        cases hl
        exact .gd _ _ _ _ _ (fun _ => r'.env d' v (by simp [St.put,look_cons_self])) (fun hf => by rw [hg] at hf; cases hf)
      · simp only [St.put,look_cons_ne ed] at hl
        exact r'.env d' v' (by simpa [St.put,look_cons_ne ed] using hl)
  · rw [if_neg hg]
    refine ⟨fun _ _ => trivial,hK _ _ (t d ι _ w Q hH (r.put (hd d) (.gd _ _ _ _ _ (fun h => absurd h hg) (fun _ => rfl))) hq)⟩
theorem ARunO.guard {dst : Nat} {op : Op} {ty : TypeId} {p : String} {e : Array Edge} {j dj : Nat} {b want : Bool} {v : AV}
    (hj : (A[j]?).bind (·.dst) = some dj) (hdj : ∀ d,dj < (φ.cx d).N) (hb : look dj s.env = some (.sc (.bool b))) (hd : ∀ d,dst < (φ.cx d).N)
    (h : (bif want then b else !b) = true → ∀ d,AStep (φ.cx d) ⟨some dst,op,ty,p,e,some (j,want)⟩ s (s.put dst v))
    (t : ARunO φ A l g (s.put dst (.gd (bif want then b else !b) v)) OK S) : ARunO φ A (⟨some dst,op,ty,p,e,some (j,want)⟩ :: l) g s OK S :=
  .guardC (fun d _ _ _ r => wanted1 r hj (hdj d) hb) hd h t
theorem ARunO.step {dst : Option Nat} {op : Op} {ty : TypeId} {p : String} {e : Array Edge} {gb : ω → Option R} {sb s' : ω → St}
    (h : ∀ d ι a w K Q,φ.H g d → Rel (φ.cx d) s ι a w → (∀ o d' ι' a' w',OK o → φ.H (gb o) d' → Rel (φ.cx d') (sb o) ι' a' w' → K a' w') → (⟨dst,op,ty,p,e,none⟩ : Oper).wpIn (Fc φ.r) 0 φ.P a w K Q)
    (t : ∀ o d,ARun (φ.cx d) A l (sb o) (s' o)) : ARunO φ A (⟨dst,op,ty,p,e,none⟩ :: l) g s OK (fun o => (gb o,s' o)) := fun d ι a w Q hH r hq => by
  refine wpListIn_plain rfl fun K hK => h d ι a w K Q hH r fun o d' ι' a' w' ho hH' r' => hK _ _ ?_
  have := t o d' ι' a' w' Q r' fun ι2 a2 w2 r2 => hq o d' ι2 a2 w2 ho hH' r2
  rw [φ.hP,φ.hr] at this
  exact this
theorem AWPF.regionO {Q : Exit → Option R → St → Prop} {id : Nat} (h : ARunO φ l.toArray l g s OK S) (hq : ∀ o,OK o → Q .normal (S o).1 (S o).2) : AWPF φ (.region id l.toArray false) Q g s :=
  fun d ι a w hH r => wpIn_region_lit (h d ι a w _ hH r fun o d' ι' _ _ ho hH' r' => ⟨(S o).1,(S o).2,d',ι',hH',r',hq o ho⟩)
end
section
variable {E X : Type} {P : Program} {N : Nat} {K : List Nat} {ι0 : Tags} {xs tail : List E} {xf : X} {Zs Zb : Nat → Prop} {J : List E → (Nat → Prop) → (Nat → Prop) → World → Prop} {Jx : (Nat → Prop) → (Nat → Prop) → World → Prop}
theorem yieldY {l : Nat} {vals : E → List AV} (hJ : ∀ pre,Abide (J pre)) (hJx : Abide Jx) (hR : RoundOk P l vals xs Zs Zb J Jx) {dst : Nat} {y : Operand} {args : Array Operand} {ats : Array TypeId} {ty : TypeId} {p : String} {e : Array Edge} {gd : Option (Nat × Bool)} {s : St}
    {x : E} {q : List E × X} (hd : dst < N) (hy : ∀ d,Ev ((yFam P N K ι0 xs tail xf Zs Zb J Jx).cx d) s y (.sc (.func (.yield l) #[] #[]))) (ha : ∀ d,EvV ((yFam P N K ι0 xs tail xf Zs Zb J Jx).cx d) s args.toList (vals x))
    {d : ItD} {ι : Tags} {a : Act} {w : World} (Kn : Act → World → Prop) (Q : Exit → Act → World → Prop) (hH : (yFam P N K ι0 xs tail xf Zs Zb J Jx).H (some (x :: q.1,q.2)) d) (r : Rel ((yFam P N K ι0 xs tail xf Zs Zb J Jx).cx d) s ι a w)
    (hk : ∀ b d' ι' a' w',(yFam P N K ι0 xs tail xf Zs Zb J Jx).H (if b = true then some q else none) d' → Rel ((yFam P N K ι0 xs tail xf Zs Zb J Jx).cx d') (s.put dst (.sc (.bool b))) ι' a' w' → Kn a' w') :
    (⟨some dst,.call { callee := .value y,args := args,argTypes := ats },ty,p,e,gd⟩ : Oper).wpIn (Fc none) 0 P a w Kn Q := by
  have h1 : ItH xs Zs Zb J Jx (some (x :: (q.1 ++ tail))) d := hH.1
  have hn := ItH.nowC h1 hJ hJx r
  obtain ⟨pre,exs,hj⟩ := hn.past
  have hv := (ha d).vrs r
  obtain ⟨fn,tmps,assign,body,hrun,hround⟩ := hR pre x (q.1 ++ tail) _ _ w (zone ((yFam P N K ι0 xs tail xf Zs Zb J Jx).cx d) s.heap ι w) _ exs hj hn.own hn.lt (fun β b hz => by
    refine ⟨hz.1,fun ⟨t,ht,e1⟩ => hz.2.1 t ht e1,?_⟩
    cases β with
    | false =>
      rcases hn.zs b hz with h | h
      · exact .inl h
      · exact .inr (.inr h)
    | true =>
      rcases hn.zb b hz with h | h | h
      · exact .inr (.inl ⟨rfl,h⟩)
      · exact .inl h
      · exact .inr (.inr h)) hv
  refine ⟨fun _ _ => trivial,?_⟩
  rw [semAt_plain _ _ _ (fun _ h => by cases h)]
  have he : a.eval y = .func (.yield l) #[] #[] := (hy d).sc r
  have hexec : (execOp a.eval ⟨some dst,.call { callee := .value y,args := args,argTypes := ats },ty,p,e,gd⟩).run P w = .ok (.round l fn tmps assign body) w := by
    have hargs : (args.toList.map a.eval).toArray = args.map a.eval := by
      apply Array.ext'
      simp
    rw [hargs] at hrun
    simp [execOp,resolve,he,Deferred.ofValue,invoke,hrun]
  rw [hexec,Oper.uponIn_round]
  refine ⟨(fun h => by cases h),RoundIn.mono hround ?_⟩
  rintro e' W' ⟨kept,hres⟩
  have fin : ∀ b : Bool,(match (if b = true then some (q.1 ++ tail) else none) with | some rest => ∃ pre,xs = pre ++ rest ∧ J pre (ownedBy s.heap ι) (fun b => d.I b ∨ (d.w0.heap.size ≤ b ∧ b < w.heap.size)) W' | none => Jx (ownedBy s.heap ι) (fun b => d.I b ∨ (d.w0.heap.size ≤ b ∧ b < w.heap.size)) W') → Kn (a.put (some dst) (.bool b)) W' := by
    intro b hp
    have r2 := r.anew none (dfr := []) (tm := a.tmps) rfl kept
    refine hk b ⟨W',_,_,_,fun b => d.I b ∨ (d.w0.heap.size ≤ b ∧ b < w.heap.size)⟩ ι _ _ ⟨⟨?_,hn.own,fun b hb => Nat.lt_of_lt_of_le (hn.lt b hb) kept.size,hn.zs,hn.zb⟩,fun q' hq' => ?_⟩ (by
      have h3 := r2.put (d := dst) (u := .bool b) hd (.sc _ _ _)
      have e1 : a = ⟨a.tmps,[]⟩ := by
        have := r.dfr
        obtain ⟨x,y⟩ := a
        simp only at this
        subst this
        rfl
      rw [e1]
      exact h3)
    · cases b with
      | true => exact hp
      | false => exact hp
    · cases b with
      | true => cases hq'; exact hH.2 (x :: q.1,q.2) rfl
      | false => cases hq'
  rcases hres with ⟨rfl,hj'⟩ | ⟨rfl,hj'⟩
  · exact fin true ⟨pre ++ [x],by rw [exs]; simp,hj'⟩
  · exact fin false hj'
structure KeepJ (own rest : Nat → Prop) (zo : Bool → Nat → Prop) (I0 : Nat → Prop) (w : World) (J : (Nat → Prop) → (Nat → Prop) → World → Prop) (O I : Nat → Prop) (W : World) : Prop where
  j : J (fun b => O b ∨ rest b) (fun b => I b ∨ I0 b) W
  kept : Kept (fun b => rest b ∨ zo false b ∨ zo true b) w W
  oo : ∀ b,O b → own b ∨ w.heap.size ≤ b
  oi : ∀ b,I b → own b ∨ w.heap.size ≤ b
theorem KeepJ.abide {own rest : Nat → Prop} {zo : Bool → Nat → Prop} {I0 : Nat → Prop} {w : World} {J : (Nat → Prop) → (Nat → Prop) → World → Prop} (hJ : Abide J) (hr : ∀ b,rest b → b < w.heap.size ∧ ¬ own b) (hz : ∀ β b,zo β b → b < w.heap.size ∧ ¬ own b) :
    Abide (KeepJ own rest zo I0 w J) := by
  intro O O' I I' W W' h tr hO hI
  have hsz := h.kept.size
  refine ⟨hJ _ _ _ _ _ _ h.j ⟨tr.os,tr.tape,tr.output,tr.size,fun k hk hn => tr.block k hk fun h => hn (.inl h),tr.bsz⟩ (fun b hb => ?_) (fun b => ?_),h.kept.trans (tr.kept fun b _ hb ho => ?_),fun b hb => ?_,fun b hb => ?_⟩
  · rcases hb with hb | hb
    · rcases hO b hb with h1 | h1
      · exact .inl (.inl h1)
      · exact .inr h1
    · exact .inl (.inr hb)
  · constructor
    · rintro (h1 | h1)
      · rcases (hI b).1 h1 with h2 | h2
        · exact .inl (.inl h2)
        · exact .inr h2
      · exact .inl (.inr h1)
    · rintro ((h1 | h1) | h1)
      · exact .inl ((hI b).2 (.inl h1))
      · exact .inr h1
      · exact .inl ((hI b).2 (.inr h1))
  · have : b < w.heap.size ∧ ¬ own b := by
      rcases hb with hb | hb | hb
      · exact hr b hb
      · exact hz _ b hb
      · exact hz _ b hb
    rcases h.oo b ho with h1 | h1
    · exact this.2 h1
    · omega
  · rcases hO b hb with h1 | h1
    · exact h.oo b h1
    · exact .inr (by omega)
  · rcases (hI b).1 hb with h1 | h1
    · exact h.oi b h1
    · exact .inr (by omega)
end
def ltpB : Nat → List Oper → Bool
  | _,[] => true
  | i,o :: os => (preds o).all (fun j => Nat.blt j i) && ltpB (i + 1) os
def rowB : Nat → List Oper → Bool
  | _,[] => true
  | i,o :: os => anyT (preds o) (i - 1) && rowB (i + 1) os
def guardB (b : Nat) (l : List Oper) : Bool := l.all fun o => match o.guard with | some (j,_) => Nat.blt j b | none => true
def cutB (R : List (List Nat)) (b : Nat) (l : List Oper) : Bool := Nat.blt b l.length && rcheck R 0 l && (List.range b).all (fun j => pre R b j) && ltpB 0 l && rowB (b + 1) (l.drop (b + 1)) && guardB b (l.take b)
section
variable {F : Fence} {n : Nat} {P : Program} {Q : Exit → Act → World → Prop} {l : List Oper} {b : Nat}
end
section
variable {F : Fence} {n : Nat} {P : Program} {ops : Array Oper} {md : Region.Mode}
end
theorem splitE {R : Type} {Q : Exit → Option R → St → Prop} {q : R} {e : Bool} {s' : Bool → St} (go : Q .normal (some q) (s' true)) (stop : e = false → Q .normal none (s' false)) :
    ∀ b : Bool,(e = true → b = true) → Q .normal ((fun b : Bool => ((if b = true then some q else none : Option R),s' b)) b).1 ((fun b : Bool => ((if b = true then some q else none : Option R),s' b)) b).2 := by
  intro b h
  cases b with
  | true => exact go
  | false => exact stop (by cases e with | false => rfl | true => exact absurd (h rfl) (by decide))
def yldC {E X : Type} (e : Bool) (x : E) (m : Option (List E × X)) : Option (List E × X) := if e = true then m else m.map fun q => (x :: q.1,q.2)
def yldsM {E X1 X : Type} (m : Option (List E × X1)) (k : X1 → Option (List E × X)) : Option (List E × X) := m.bind fun p => (k p.2).map fun q => (p.1 ++ q.1,q.2)
section
variable {E X : Type} {P : Program} {N : Nat} {K : List Nat} {ι0 : Tags} {xs tail : List E} {xf : X} {Zs Zb : Nat → Prop} {J : List E → (Nat → Prop) → (Nat → Prop) → World → Prop} {Jx : (Nat → Prop) → (Nat → Prop) → World → Prop} {A : Array Oper} {ol : List Oper} {s : St}
theorem ARunO.y0 {l : Nat} {vals : E → List AV} {dst : Nat} {y : Operand} {args : Array Operand} {ats : Array TypeId} {ty : TypeId} {p : String} {ed : Array Edge} {x : E} {r q : List E × X} {s' : Bool → St}
    (hJ : ∀ pre,Abide (J pre)) (hJx : Abide Jx) (hR : RoundOk P l vals xs Zs Zb J Jx) (hq : (false = true → r = q) ∧ (false = false → r = (x :: q.1,q.2))) (hd : dst < N)
    (hy : ∀ d,Ev (cxY P N K ι0 d) s y (.sc (.func (.yield l) #[] #[]))) (ha : ∀ d,EvV (cxY P N K ι0 d) s args.toList (vals x))
    (t : ∀ b d,ARun (cxY P N K ι0 d) A ol (s.put dst (.sc (.bool b))) (s' b)) :
    ARunO (yFam P N K ι0 xs tail xf Zs Zb J Jx) A (⟨some dst,.call { callee := .value y,args := args,argTypes := ats },ty,p,ed,none⟩ :: ol) (some r) s (fun b => false = true → b = true) (fun b => (if b = true then some q else none,s' b)) := by
  refine ARunO.step (sb := fun b => s.put dst (.sc (.bool b))) (fun d ι a w K Q hH rel hk => ?_) t
  obtain rfl := hq.2 rfl
  exact yieldY hJ hJx hR hd hy ha K Q hH rel fun b d' ι' a' w' hH' r' => hk b d' ι' a' w' (fun h => by cases h) hH' r'
end
section
variable {R X1 : Type} {φ : Fam (Option R)} {g : Option R} {s s1 : St} {Q : Exit → Option R → St → Prop} {id b : Nat} {l : List Oper} {q : R}
theorem AWPF.regionE {e : Bool} {s' : Bool → St} (h : ARunO φ l.toArray l g s (fun b => e = true → b = true) (fun b => (if b = true then some q else none,s' b)))
    (go : Q .normal (some q) (s' true)) (stop : e = false → Q .normal none (s' false)) : AWPF φ (.region id l.toArray false) Q g s := AWPF.regionO h (splitE go stop)
end
end Go.AB
namespace Go.AB
open Go
section
variable {C : Ctx} {d : Nat} {ty : TypeId} {p : String} {e : Array Edge} {g : Option (Nat × Bool)} {s : St}
end
def apc {α : Type} (xs : List α) (n : Nat) (ys : List α) (c : Nat) : Option (List α) := if n ≤ xs.length ∧ n + ys.length ≤ c ∧ c ≤ 1099511627776 then some (xs.take n ++ ys) else none
section
variable {C : Ctx} {d : Nat} {ty : TypeId} {p : String} {e : Array Edge} {g : Option (Nat × Bool)} {s : St}
end
def SrcP (C : Ctx) (s : St) (y : Operand) (m : Nat) (ys : List AV) : Prop :=
  ∀ ι a w,Rel C s ι a w → (m = 0 ∧ ∃ q c,a.eval y = .slice q 0 c) ∨ ∃ b off cap,∃ vs : Nat → Value,a.eval y = .slice (some ⟨b,off,none⟩) m cap ∧ (∀ i,i < ys.length → w.cell? ⟨b,off + i,none⟩ = some (vs i)) ∧
    ∀ i (hi : i < ys.length),VR w (fun _ => zone C s.heap ι w false) (fun _ => none) (ys[i]'hi) (vs i)
section
variable {C : Ctx} {d : Nat} {ty : TypeId} {p : String} {e : Array Edge} {g : Option (Nat × Bool)} {s : St}
theorem SrcP.rd {x : Operand} {m : Nat} {β : Bool} {ys : List AV} (hx : Ev C s x (.rd β m ys)) (hβ : β = false ∨ ∀ c ∈ ys,c.scal = true) : SrcP C s x m ys := fun ι a w r => by
  rcases rd_inv (hx ι a w r) with ⟨⟨a0,hu⟩,rfl,rfl⟩ | ⟨b,off,cap,vs,hu,hn,hc,hz,hv,h⟩
  · exact .inl ⟨rfl,a0,0,hu⟩
  · refine .inr ⟨b,off,cap,vs,hu,hv,fun i hi => ?_⟩
    rcases hβ with rfl | hs
    · exact h i hi
    · have h2 := hs _ (List.getElem_mem hi)
      have h3 := h i hi
      generalize ys[i] = q at h2 h3
      cases q <;> simp [AV.scal] at h2
      rw [sc_inv h3]; exact .sc _ _ _
theorem SrcP.own {x : Operand} {t off m : Nat} {k : Blk} {ys : List AV} (hx : Ev C s x (.own t 1 off m)) (hk : look t s.heap = some k) (hl : k.lst = true) (hy : ys = (k.cells.drop off).take m) (hlen : off + m ≤ k.cells.length) : SrcP C s x m ys := fun ι a w r => by
  subst hy
  rcases own_inv (hx ι a w r) with ⟨rfl,hu⟩ | ⟨b,cap,q,hu,ht,hn,hc,hs,ho⟩
  · rcases hu with hu | ⟨b,o,hu⟩
    · exact .inl ⟨rfl,none,0,hu⟩
    · exact .inl ⟨rfl,_,0,hu⟩
  · obtain ⟨cur,hb,hlc,h⟩ := blk_inv r.core hk ht
    simp only [hl,cond_true] at h
    refine .inr ⟨b,off,cap,fun i => (cur[off + i]?).getD undef,hu,fun i hi => ?_,fun i hi => ?_⟩
    · have hi' : off + i < k.cells.length := by simp at hi; omega
      obtain ⟨u,hu2,_⟩ := h (off + i) hi'
      show _ = some ((cur[off + i]?).getD undef)
      rw [cell_of_row w b (off + i) cur k.ty (0,0) hb,hu2]; rfl
    · have hi' : off + i < k.cells.length := by simp at hi; omega
      obtain ⟨u,hu2,hv⟩ := h (off + i) hi'
      have e1 : ((k.cells.drop off).take m)[i]'hi = k.cells[off + i] := by simp
      rw [e1]
      show VR w _ _ _ ((cur[off + i]?).getD undef)
      rw [hu2]; exact hv
end
def cpy {α : Type} (xs : List α) (off n : Nat) (ys : List α) : Option (List α) := if off + n ≤ xs.length then some (xs.take off ++ ys.take (min ys.length n) ++ xs.drop (off + min ys.length n)) else none
section
variable {C : Ctx} {d : Nat} {ty : TypeId} {p : String} {e : Array Edge} {g : Option (Nat × Bool)} {s : St}
end
def gip {α : Type} (xs : List α) (off n : Nat) (i : Int) : Option α := if 0 ≤ i ∧ i < n then getIdx xs ((off + i.toNat : Nat) : Int) else none
section
variable {C : Ctx} {d : Nat} {ty : TypeId} {p : String} {e : Array Edge} {g : Option (Nat × Bool)} {s : St}
end
theorem OpC.conv {P : Program} {T : TypeId} {α β : Type} {enc : α → List AV} {wf : α → Prop} {enc' : β → List AV} {wf' : β → Prop} (h : OpC P T enc wf) (f : ∀ y,wf y → ∃ z,wf' z ∧ enc' z = enc y) : OpC P T enc' wf' := fun H e W fuel cs x hx => by
  obtain ⟨y,hy,hl,hv⟩ := h H e W fuel cs x hx
  obtain ⟨z,hz,e⟩ := f y hy
  refine ⟨z,hz,by rw [e]; exact hl,fun i hi => ?_⟩
  have hi' : i < (enc y).length := by rw [← e]; exact hi
  obtain ⟨u,hu,hvr⟩ := hv i hi'
  refine ⟨u,hu,?_⟩
  have : (enc' z)[i]'hi = (enc y)[i]'hi' := by simp only [e]
  rw [this]; exact hvr
end Go.AB
set_option linter.unusedVariables false
namespace Go.AB
open Go
section
variable {C : Ctx} {d : Nat} {ty : TypeId} {p : String} {e : Array Edge} {g : Option (Nat × Bool)} {s : St}
def apk {α : Type} (xs ys : List α) : Option (List α) := if xs.length + ys.length ≤ 2513169434916 then some (xs ++ ys) else none
end
end Go.AB
