import Derived.Test.YtiginjokbkemcaaGreatBc
import Derived.Laws.IdiomStrings
namespace Go.AB
open Go
structure RgJ (P : Program) (N : Nat) (KB : List Nat) (ιs : Tags) (env : List (Nat × AV)) (tm : Array Value) (Hx : List (Nat × Blk)) (ws : World) (own0 : Nat → Prop) (z0 : Bool → Nat → Prop) (l D : Nat) (rec : Loop)
    (O I : Nat → Prop) (W : World) : Prop where
  st : ∃ ι Zs Zb,Rel ⟨P,none,N,[],W,Zs,Zb,ownedBy Hx ι,KB,ιs⟩ ⟨env,Hx⟩ ι ⟨tm,[]⟩ W ∧ (∀ b,ownedBy Hx ι b → ¬ I b ∧ ¬ O b ∧ (own0 b ∨ ws.heap.size ≤ b)) ∧ (∀ b,Zs b ∨ Zb b → b < W.heap.size ∧ ¬ O b) ∧
    (∀ b,Zs b → z0 false b ∨ own0 b ∨ ws.heap.size ≤ b) ∧ (∀ b,Zb b → z0 true b ∨ z0 false b ∨ own0 b ∨ ws.heap.size ≤ b)
  rc : W.heap[l]? = some (.loop rec)
  mark : W.heap[D]? = some (.deferred (some []))
  lO : ¬ O l ∧ ¬ O D
  lws : ws.heap.size ≤ l ∧ ws.heap.size ≤ D ∧ l ≠ D
  oo : ∀ b,O b → own0 b ∨ ws.heap.size ≤ b
  oi : ∀ b,I b → own0 b ∨ ws.heap.size ≤ b
  tr : Trans own0 ws W
section
variable {P : Program} {N : Nat} {KB : List Nat} {ιs : Tags} {env : List (Nat × AV)} {tm : Array Value} {Hx : List (Nat × Blk)} {ws : World} {own0 : Nat → Prop} {z0 : Bool → Nat → Prop} {l D : Nat} {rec : Loop}
end
def puts : St → List (Nat × AV) → St
  | s,[] => s
  | s,(d,v) :: l => puts (s.put d v) l
section
variable {P : Program} {N : Nat} {KB : List Nat} {ιs : Tags} {env : List (Nat × AV)} {tm : Array Value} {ws : World} {own0 : Nat → Prop} {z0 : Bool → Nat → Prop} {l D : Nat}
variable {σ R E : Type} {Hp : σ → List (Nat × Blk)} {Hb : E → σ → List (Nat × Blk)} {step : (σ → Option R) → E → σ → Option R} {k : σ → Option R} {r : R} {vals : E → List AV} {ps : Array Nat} {assign body : Code} {envb : E → σ → List (Nat × AV)} {M : Exit → σ → Prop} {fn : FuncId}
structure BodyOk (P : Program) (N l : Nat) (KB : List Nat) (env : List (Nat × AV)) {σ R E : Type} (Hp : σ → List (Nat × Blk)) (Hb : E → σ → List (Nat × Blk)) (step : (σ → Option R) → E → σ → Option R) (r : R) (vals : E → List AV) (ps : Array Nat) (assign body : Code)
    (envb : E → σ → List (Nat × AV)) (M : Exit → σ → Prop) : Prop where
  hps : ∀ p,p ∈ ps.toList → p < N
  hvl : ∀ e,(vals e).length = ps.size
  assign : ∀ w0 Zs Zb T0 ι0 x e,AWP ⟨P,some l,N,[],w0,Zs,Zb,T0,KB,ι0⟩ assign (fun e' s' => e' = .normal ∧ VC ⟨P,some l,N,[],w0,Zs,Zb,T0,KB,ι0⟩ s' ⟨envb e x,Hb e x⟩) (puts ⟨env,Hp x⟩ (ps.toList.zip (vals e)))
  body : ∀ w0 Zs Zb T0 ι0 nx x e,step nx e x = some r → AWP ⟨P,some l,N,[],w0,Zs,Zb,T0,KB,ι0⟩ body (fun e' s' => ∃ x',VC ⟨P,some l,N,[],w0,Zs,Zb,T0,KB,ι0⟩ s' ⟨[],Hp x'⟩ ∧
    ((e' = .normal ∧ nx x' = some r) ∨ ((e' = .ret ∨ ∃ id,e' = .exit id) ∧ M e' x'))) ⟨envb e x,Hb e x⟩
end
end Go.AB
namespace Go.AB
open Go
structure RgD where
  ms : List Nat
  w0 : World
  Zs : Nat → Prop
  Zb : Nat → Prop
  T0 : Nat → Prop
structure RgH {R : Type} (r : R) (w00 : World) (Zs0 Zb0 T00 : Nat → Prop) (g : Option R) (d : RgD) : Prop where
  g : g = some r
  tr : Trans T00 w00 d.w0
  own : ∀ b,d.T0 b → T00 b ∨ w00.heap.size ≤ b
  zs : ∀ b,d.Zs b → Zs0 b ∨ T00 b ∨ w00.heap.size ≤ b
  zb : ∀ b,d.Zb b → Zb0 b ∨ Zs0 b ∨ T00 b ∨ w00.heap.size ≤ b
  marks : ∀ B,B ∈ d.ms → d.w0.heap[B]? = some (.deferred (some [])) ∧ ¬ d.T0 B ∧ w00.heap.size ≤ B
  nodup : d.ms.Nodup
section
variable {P : Program} {N : Nat} {ι0 : Tags} {w00 : World} {Zs0 Zb0 T00 : Nat → Prop}
end
end Go.AB
namespace Go.AB
open Go
section
variable {E : Type} {P : Program} {N : Nat} {ι0 : Tags} {xs : List E} {Zs Zb : Nat → Prop} {J : List E → (Nat → Prop) → (Nat → Prop) → World → Prop} {Jx : (Nat → Prop) → (Nat → Prop) → World → Prop} {A : Array Oper} {ol : List Oper} {s : St}
end
section
variable {P : Program} {N : Nat} {ι0 : Tags} {w00 : World} {Zs0 Zb0 T00 : Nat → Prop}
end
end Go.AB
namespace Go.AB
end Go.AB
namespace Go.AB
open Go
def badN (R : List (List Nat)) (T : List Nat) (i : Nat) (S : List Nat) : Bool := anyT S i || S.any (fun k => pre R k i) || T.any (fun k => !anyT S k && pre R i k)
def nextN (T : List Nat) (i : Nat) (S S' : List Nat) : Bool := T.all (fun k => anyT S' k == (Nat.beq k i || anyT S k)) && S'.all (anyT T)
abbrev DNode := List Nat × List (Nat × Blk)
inductive NStep (C : Ctx) (A : Array Oper) (F : List DFact) (R : List (List Nat)) (T : List Nat) (Ns : List DNode) (i : Nat) (o : Oper) (x : DOp) (n : DNode) : Prop
  | bad (h : badN R T i n.1 = true)
  | stay (hT : anyT T i = false) (h : DStep C A o (needOf F x.need) n.2 x.dv x.T n.2)
  | turn {n' : DNode} (q : Nat) (hq : Ns[q]? = some n') (hn : nextN T i n.1 n'.1 = true) (h : DStep C A o (needOf F x.need) n.2 x.dv x.T n'.2)
inductive NSteps (C : Ctx) (A : Array Oper) (F : List DFact) (R : List (List Nat)) (T : List Nat) (Ns : List DNode) : Nat → List Oper → List DOp → Prop
  | nil (i : Nat) : NSteps C A F R T Ns i [] []
  | pure {i : Nat} {o : Oper} {os : List Oper} {x : DOp} {xs : List DOp} (hc : anyT T i = false) (h : ∀ H,DStep C A o (needOf F x.need) H x.dv x.T H)
      (t : NSteps C A F R T Ns (i + 1) os xs) : NSteps C A F R T Ns i (o :: os) (x :: xs)
  | each {i : Nat} {o : Oper} {os : List Oper} {x : DOp} {xs : List DOp} (h : AllL (NStep C A F R T Ns i o x) Ns)
      (t : NSteps C A F R T Ns (i + 1) os xs) : NSteps C A F R T Ns i (o :: os) (x :: xs)
end Go.AB
namespace Go.AB
open Go
section
variable {C : Ctx} {d : Nat} {ty : TypeId} {p : String} {e : Array Edge} {g : Option (Nat × Bool)} {s : St}
end
end Go.AB
namespace Go.AB
open Go
section
variable {C : Ctx} {s : St}
theorem VC.cell {t i : Nat} {k : Blk} {v v' : AV} (hk : look t s.heap = some k) (hl : k.lst = false) (hc : k.cells[i]? = some v) (h : ∀ w Z ι u,VR w Z ι v u → VR w Z ι v' u) :
    VC C s ⟨s.env,updH t ⟨k.ty,k.lst,k.cells.set i v'⟩ s.heap⟩ := by
  have hi := (List.getElem?_eq_some_iff.1 hc).1
  refine VC.cellsW hk rfl (by simp) (.inr fun hn => by rw [hn] at hi; cases hi) (fun hn => by rw [hn] at hi; cases hi) fun j hj hj' w Z ι u hZ hv => ?_
  simp only [hl,cond_false] at hv ⊢
  by_cases e : j = i
  · subst e
    have : k.cells[j] = v := by rw [List.getElem?_eq_getElem hj] at hc; exact Option.some.inj hc
    rw [this] at hv
    simp only [List.getElem_set_self]
    exact h _ _ _ _ hv
  · rw [List.getElem_set_ne (fun h => e h.symm)]
    exact hv
theorem VC.cellEq {t i : Nat} {k : Blk} {v v' : AV} (hk : look t s.heap = some k) (hl : k.lst = false) (hc : k.cells[i]? = some v) (h : v = v') :
    VC C s ⟨s.env,updH t ⟨k.ty,k.lst,k.cells.set i v'⟩ s.heap⟩ := VC.cell hk hl hc fun _ _ _ _ hv => h ▸ hv
end
end Go.AB
namespace Go.AB
inductive row8 : List AV → List UInt8 → Prop
  | n : row8 [] []
  | c {a : AV} {c : UInt8} {l : List AV} {l' : List UInt8} (h : a = .sc (.int .u8 (c.toNat : Int))) (t : row8 l l') : row8 (a :: l) (c :: l')
end Go.AB
namespace Go.AB
open Go
theorem RV.cell1 {C : Ctx} {s : St} {x T t off : Nat} {k : Blk} {c v : AV} (hx : look x s.env = some (.ptr t off)) (hT : oneT C.P T) (hk : look t s.heap = some k)
    (hc : k.cells[off]? = some c) (hv : v = k.out c) : RV C s (.cell x T) v := fun ι a w r => by
  subst hv
  obtain ⟨b,hu,ht⟩ := ptr_inv (r.env x _ hx)
  obtain ⟨cur,hb,hl,h⟩ := blk_inv r.core hk ht
  have hlt := (List.getElem?_eq_some_iff.1 hc).1
  obtain ⟨u,hu',hvr⟩ := h off hlt
  have he : k.cells[off] = c := by rw [List.getElem?_eq_getElem hlt] at hc; exact Option.some.inj hc
  rw [he] at hvr
  refine ⟨u,?_,out_VR hvr⟩
  have hcell : w.cell? ⟨b,off,none⟩ = some u := by rw [cell_of_row w b off cur k.ty (0,0) hb]; exact hu'
  simp [resVar,hu,asAddr,loadVar,hT.run,hcell]
mutual
theorem frzA_free {t : Nat} {F : List AV} : ∀ {v : AV},AV.free t v = true → frzA t F v = v
  | .own t' sz off n,h => by
    have : Nat.beq t' t = false := by
      simp only [AV.free,bne_iff_ne,ne_eq] at h
      exact beq_ne h
    simp [frzA,this]
  | .ownc t' sz n c,h => by
    have : Nat.beq t' t = false := by
      simp only [AV.free,bne_iff_ne,ne_eq] at h
      exact beq_ne h
    simp [frzA,this]
  | .ptr t' off,h => by
    have : Nat.beq t' t = false := by
      simp only [AV.free,bne_iff_ne,ne_eq] at h
      exact beq_ne h
    simp [frzA,this]
  | .agg cs,h => by simp only [frzA]; rw [frzL_free (by simpa [AV.free] using h)]
  | .tup cs,h => by simp only [frzA]; rw [frzL_free (by simpa [AV.free] using h)]
  | .clo f a b,h => by
    simp only [AV.free,Bool.and_eq_true] at h
    simp only [frzA]; rw [frzL_free h.1,frzL_free h.2]
  | .gd c v,h => by simp only [frzA]; rw [frzA_free (by simpa [AV.free] using h)]
  | .sc _,_ => by simp [frzA]
  | .rd _ _ _,_ => by simp [frzA]
  | .rdx _ _ _,_ => by simp [frzA]
  | .rptr _ _,_ => by simp [frzA]
  | .any,_ => by simp [frzA]
theorem frzL_free {t : Nat} {F : List AV} : ∀ {l : List AV},AV.freeL t l = true → frzL t F l = l
  | [],_ => rfl
  | a :: l,h => by
    simp only [AV.freeL,Bool.and_eq_true] at h
    simp only [frzL]; rw [frzA_free h.1,frzL_free h.2]
end
theorem DStep.appFrz {C : Ctx} {A : Array Oper} {op : Op} {ty : TypeId} {p : String} {e : Array Edge} {need : List (Nat × AV)} {H H' : List (Nat × Blk)} {α : Type} {enc : α → List AV} {xs : List α} {d t sz : Nat} {E0 : TypeId}
    (h : ∀ E,Need need E → AStep C ⟨some d,op,ty,p,e,none⟩ ⟨E,H⟩ (St.newP ⟨E,H⟩ d t ⟨E0,true,xs.flatMap enc⟩ (.own t sz 0 xs.length)))
    (hH : H' = frzH t (xs.flatMap enc) ((t,⟨E0,true,xs.flatMap enc⟩) :: purgeH t H)) (henc : ∀ y,(enc y).length = sz) :
    DStep C A ⟨some d,op,ty,p,e,none⟩ need H (some (d,.rd false xs.length (xs.flatMap enc))) [t] H' := fun E hE => by
  subst hH
  have hv := VC.frz (C := C) (s := St.newP ⟨E,H⟩ d t ⟨E0,true,xs.flatMap enc⟩ (.own t sz 0 xs.length)) (enc := enc) (d := d) (t := t) (sz := sz) (E := E0) (xs := xs) (look_cons_self _ _ _) (look_cons_self _ _ _) henc
  refine ⟨(d,.rd false xs.length (xs.flatMap enc)) :: frzE t (xs.flatMap enc) ((d,.own t sz 0 xs.length) :: purgeE t E),OStep.plain (fun ι a w K Q r hk => h E hE ι a w K Q r fun ι' a' w' r' => ?_),?_,?_⟩
  · obtain ⟨ι2,r2⟩ := hv ι' a' w' r'
    exact hk ι2 a' w' r2
  · intro d' v' hd; cases hd; simp [look_cons_self]
  · intro x v' hx hl hf
    have hxd : x ≠ d := hx d _ rfl
    have hf' : AV.free t v' = true := by simpa [freeOf] using hf
    rw [look_cons_ne hxd,look_frzE,look_cons_ne hxd,look_purgeE,hl]
    simp [purgeA,hf',frzA_free hf']
end Go.AB
namespace Go.AB
inductive BornL (D : List DOp) : List DFact → Prop
  | n : BornL D []
  | o {slot : Nat} {v : AV} {dies : List Nat} {F : List DFact} (t : BornL D F) : BornL D (⟨slot,v,none,dies⟩ :: F)
  | b {slot j : Nat} {v : AV} {dies : List Nat} {x : DOp} {F : List DFact} (h : D[j]? = some x) (hv : x.dv = some (slot,v)) (t : BornL D F) : BornL D (⟨slot,v,some j,dies⟩ :: F)
theorem BornL.ok {D : List DOp} {F : List DFact} (h : BornL D F) : BornOk D F := by
  induction h with
  | n => trivial
  | o t ih => exact ⟨trivial,ih⟩
  | b h hv t ih => exact ⟨⟨_,h,hv⟩,ih⟩
inductive BaseL (E : List (Nat × AV)) : List DFact → Prop
  | n : BaseL E []
  | o {slot : Nat} {v : AV} {dies : List Nat} {F : List DFact} (h : look slot E = some v) (t : BaseL E F) : BaseL E (⟨slot,v,none,dies⟩ :: F)
  | b {slot j : Nat} {v : AV} {dies : List Nat} {F : List DFact} (t : BaseL E F) : BaseL E (⟨slot,v,some j,dies⟩ :: F)
theorem BaseL.ok {E : List (Nat × AV)} {F : List DFact} (h : BaseL E F) : BaseOk E F := by
  induction h with
  | n => trivial
  | o h t ih => exact ⟨h,ih⟩
  | b t ih => exact ⟨trivial,ih⟩
end Go.AB
namespace Go.AB
open Go
theorem CvL.at {C : Ctx} {s : St} {σ : Nat → Nat} {H : List (Nat × Blk)} {bw : Bool} {vs vs' : List AV} (h : CvL C s σ H bw vs vs') : vs.length = vs'.length ∧ ∀ i (hi : i < vs.length) (hi' : i < vs'.length),Cv C s σ H bw vs[i] vs'[i] := by
  induction h with
  | nil => exact ⟨rfl,fun i hi => absurd hi (by simp)⟩
  | cons h t ih =>
    refine ⟨by simp [ih.1],fun i hi hi' => ?_⟩
    cases i with
    | zero => exact h
    | succ i => exact ih.2 i (by simpa using hi) (by simpa using hi')
theorem Cv.agg {C : Ctx} {s : St} {σ : Nat → Nat} {H : List (Nat × Blk)} {bw : Bool} {cs cs' : List AV} (h : CvL C s σ H bw cs cs') : Cv C s σ H bw (.agg cs) (.agg cs') := by
  intro K ι a w u r hH hv
  obtain ⟨h1,h2⟩ := h.at
  cases hv with
  | agg _ _ _ vs hl hv =>
    exact .agg _ _ _ vs (by omega) fun i hi => h2 i (by omega) hi K ι a w _ r hH (hv i (by omega))
end Go.AB
namespace Go.AB
open Go
section
variable {C : Ctx} {A : Array Oper} {op : Op} {ty : TypeId} {p : String} {e : Array Edge} {j dj : Nat} {b want a0 : Bool} {l : List Oper} {s s1 s2 : St}
end
section
variable {C : Ctx} {d : Nat} {ty : TypeId} {p : String} {e : Array Edge} {g : Option (Nat × Bool)} {s : St}
end
end Go.AB
namespace Go.AB
open Go
section
variable {C : Ctx} {s : St} {d : Nat} {ty : TypeId} {p : String} {e : Array Edge} {g : Option (Nat × Bool)}
end
section
variable {C : Ctx} {A : Array Oper} {op : Op} {ty : TypeId} {p : String} {e : Array Edge} {need : List (Nat × AV)} {H H' : List (Nat × Blk)} {j dj : Nat} {b want a0 : Bool} {dv : Option (Nat × AV)} {T : List Nat}
end
end Go.AB
namespace Go.AB
open Go
end Go.AB
namespace Go.AB
open Go
section
variable {C : Ctx} {s : St} {d : Nat} {ty : TypeId} {p : String} {e : Array Edge} {g : Option (Nat × Bool)} {x : Operand} {T E U : TypeId}
theorem AStepE.eqNil0 {β : Bool} {n : Nat} {cells : List AV} (hd : d < C.N) (hx : Ev C s x (.rd β n cells)) (hT : C.P.underlying T = some (.slice E)) :
    AStepE C ⟨some d,.binOp .eql T x (.const (.slice none 0 0)) U,ty,p,e,g⟩ s (fun q => s.put d (.sc (.bool (decide (n = 0 ∧ q = 0))))) := AStepE.eqNil hd hx hT false
end
end Go.AB
namespace Go.AB
open Go
section
variable {C : Ctx} {s : St} {d : Nat} {ty : TypeId} {p : String} {e : Array Edge} {g : Option (Nat × Bool)}
section
variable {T U : TypeId} {x y : Operand} {us vs : List Int} {fs : Array Field} (hd : d < C.N) (hx : Ev C s x (.agg (us.map fun v => .sc (.int .i64 v)))) (hy : Ev C s y (.agg (vs.map fun v => .sc (.int .i64 v))))
  (hT : C.P.underlying T = some (.struct fs)) (hf : FsI C.P 0 fs.toList) (hs : C.P.stoodInHeld T = false) (hG : C.P.eqGuardType C.P.depth T = false) (h1 : us.length = fs.size) (h2 : vs.length = fs.size)
include hd hx hy hT hf hs hG h1 h2
end
section
variable {α : Type} [DecidableEq α] {enc : α → List AV} {k : IntKind} {f : α → Int} {T E U : TypeId} {x y : Operand} {xs ys : List α} {n : Nat} (hd : d < C.N) (hx : Ev C s x (.agg (xs.flatMap enc))) (hy : Ev C s y (.agg (ys.flatMap enc)))
    (henc : ∀ y,enc y = [.sc (.int k (f y))]) (hf : ∀ a b,f a = f b → a = b) (hT : C.P.underlying T = some (.array n E)) (hE : C.P.underlying E = some (.int k)) (hz : szOf C.P E 1) (hG : C.P.eqGuardType C.P.depth T = false)
    (h1 : xs.length = n) (h2 : ys.length = n)
include hd hx hy henc hf hT hE hz hG h1 h2
end
end
end Go.AB
namespace Go.AB
open Go
theorem Res.sub {C : Ctx} {fn : Func} {s : St} {r : AV} {H H2 : List (Nat × Blk)} (hs : SubH H2 H) (h : Res C fn s r H) : Res C fn s r H2 := fun ι a w rel => by
  obtain ⟨v,ι',q1,q2,q3,q4,q5⟩ := h ι a w rel
  have hhas : ∀ t,has t H2 → has t H := fun t ⟨k,hk⟩ => ⟨k,hs.look hk⟩
  have hZ : ∀ β b,zone C H ι' w β b → zone C H2 ι' w β b := fun β b hz => ⟨hz.1,fun t ht => hz.2.1 t (hhas t ht),hz.2.2⟩
  refine ⟨v,ι',q1,q2,⟨fun t k hk => ?_,fun t t' b h1 h2 => q3.inj t t' b (hhas t h1) (hhas t' h2),fun t b ht => q3.own t b (hhas t ht),q3.tr⟩,q4.mono (fun _ _ h => h) _ _ hZ (fun _ _ _ _ _ h => h) (fun _ _ _ h => h),q5⟩
  have h0 := q3.blk t k (hs.look hk)
  unfold BlkR at h0 ⊢
  cases hx : ι' t with
  | none => simp only [hx] at h0 ⊢; exact h0
  | some b =>
    simp only [hx] at h0 ⊢
    obtain ⟨cur,p1,p2,p3⟩ := h0
    refine ⟨cur,p1,p2,fun i hi => ?_⟩
    obtain ⟨u,hu,hv⟩ := p3 i hi
    refine ⟨u,hu,hv.mono (fun _ _ h => h) _ _ ?_ (fun _ _ _ _ _ h => h) (fun _ _ _ h => h)⟩
    cases k.lst with
    | true => exact fun _ b hb => hZ _ _ hb
    | false => exact hZ
end Go.AB
namespace Go.AB
open Go
section
variable {C : Ctx} {s : St} {d : Nat} {ty : TypeId} {p : String} {e : Array Edge} {g : Option (Nat × Bool)}
section
variable {x : Operand} {T U : TypeId} {A B : Array TypeId} {b : Bool}
end
end
end Go.AB
namespace Go.AB
open Go
end Go.AB
namespace Go.AB
open Go
theorem nohas {t : Nat} {H : List (Nat × Blk)} (h : (look t H).isNone = true) : ¬ has t H := by
  rintro ⟨k,hk⟩
  rw [hk] at h
  cases h
end Go.AB
namespace Go.AB
open Go
section
variable {C : Ctx} {s : St} {d : Nat} {ty : TypeId} {p : String} {e : Array Edge} {g : Option (Nat × Bool)}
theorem AStep.slPart {α : Type} {sz n : Nat} {x : Operand} {lo : Option Operand} {T E : TypeId} {t : Nat} {xs zs : List α} {l : Int} (hd : d < C.N) (hx : Ev C s x (.own t sz 0 n)) (hT : C.P.underlying T = some (.slice E)) (hE : szOf C.P E sz)
    (hn : n = xs.length) (hl : BdI C s lo 0 l) (hz : slc xs 0 l = some zs) :
    AStep C ⟨some d,.slice T x lo none none,ty,p,e,g⟩ s (s.put d (.own t sz (0 + l.toNat * sz) (xs.length - l.toNat))) := by
  obtain ⟨_,h1,h2,_,_⟩ := slcS hz
  subst hn
  exact AStep.sliceOwn (h := xs.length) hd hx hT hE (hl.nat (d := 0) (by omega)) (.inl ⟨rfl,rfl⟩) (by omega) (Nat.le_refl _)
theorem AStep.slHead {α : Type} {sz n : Nat} {x : Operand} {hi : Option Operand} {T E : TypeId} {t : Nat} {xs zs : List α} {l : Int} (hd : d < C.N) (hx : Ev C s x (.own t sz 0 n)) (hT : C.P.underlying T = some (.slice E)) (hE : szOf C.P E sz)
    (hn : n = xs.length) (hl : BdI C s hi xs.length l) (hz : slc xs 0 l = some zs) :
    AStep C ⟨some d,.slice T x none hi none,ty,p,e,g⟩ s (s.put d (.own t sz 0 zs.length)) := by
  obtain ⟨_,h1,h2,_,h4⟩ := slcS hz
  subst hn
  have := AStep.sliceOwn (ty := ty) (p := p) (e := e) (g := g) (l := 0) (h := l.toNat) hd hx hT hE (.inl ⟨rfl,rfl⟩) (hl.nat (d := xs.length) (by omega)) (by omega) (by omega)
  rw [show (0 + 0 * sz) = 0 from by omega,show l.toNat - 0 = zs.length from by rw [h4]; rfl] at this
  exact this
end
end Go.AB
