import Derived.Test.YtpccmcepgllccaaGreatBc
import Derived.Laws.IdiomStrings
namespace Go.AB
open Go
structure RgJ (P : Program) (N : Nat) (KB : List Nat) (ιs : Tags) (env : List (Nat × AV)) (tm : Array Value) (Hx : List (Nat × Blk)) (ws : World) (own0 : Nat → Prop) (z0 : Bool → Nat → Prop) (l D : Nat) (rec : Loop)
    (O I : Nat → Prop) (W : World) : Prop where
  st : ∃ ι Zs Zb,Rel ⟨P,none,N,[],W,Zs,Zb,ownedBy Hx ι,KB,ιs⟩ ⟨env,Hx⟩ ι ⟨tm,[]⟩ W ∧ (∀ b,ownedBy Hx ι b → ¬ I b ∧ ¬ O b ∧ (own0 b ∨ ws.heap.size ≤ b)) ∧ (∀ b,Zs b ∨ Zb b → b < W.heap.size ∧ ¬ O b) ∧
    (∀ b,Zs b → z0 false b ∨ own0 b ∨ ws.heap.size ≤ b) ∧ (∀ b,Zb b → z0 true b ∨ z0 false b ∨ own0 b ∨ ws.heap.size ≤ b)
  rc : W.heap[l]? = some (.loop rec)
  mark : W.heap[D]? = some (.deferred (some []))
  lO : ¬ O l ∧ ¬ O D
  lws : ws.heap.size ≤ l ∧ ws.heap.size ≤ D ∧ l ≠ D
  oo : ∀ b,O b → own0 b ∨ ws.heap.size ≤ b
  oi : ∀ b,I b → own0 b ∨ ws.heap.size ≤ b
  tr : Trans own0 ws W
section
variable {P : Program} {N : Nat} {KB : List Nat} {ιs : Tags} {env : List (Nat × AV)} {tm : Array Value} {Hx : List (Nat × Blk)} {ws : World} {own0 : Nat → Prop} {z0 : Bool → Nat → Prop} {l D : Nat} {rec : Loop}
end
def puts : St → List (Nat × AV) → St
  | s,[] => s
  | s,(d,v) :: l => puts (s.put d v) l
section
variable {P : Program} {N : Nat} {KB : List Nat} {ιs : Tags} {env : List (Nat × AV)} {tm : Array Value} {ws : World} {own0 : Nat → Prop} {z0 : Bool → Nat → Prop} {l D : Nat}
variable {σ R E : Type} {Hp : σ → List (Nat × Blk)} {Hb : E → σ → List (Nat × Blk)} {step : (σ → Option R) → E → σ → Option R} {k : σ → Option R} {r : R} {vals : E → List AV} {ps : Array Nat} {assign body : Code} {envb : E → σ → List (Nat × AV)} {M : Exit → σ → Prop} {fn : FuncId}
structure BodyOk (P : Program) (N l : Nat) (KB : List Nat) (env : List (Nat × AV)) {σ R E : Type} (Hp : σ → List (Nat × Blk)) (Hb : E → σ → List (Nat × Blk)) (step : (σ → Option R) → E → σ → Option R) (r : R) (vals : E → List AV) (ps : Array Nat) (assign body : Code)
    (envb : E → σ → List (Nat × AV)) (M : Exit → σ → Prop) : Prop where
  hps : ∀ p,p ∈ ps.toList → p < N
  hvl : ∀ e,(vals e).length = ps.size
  assign : ∀ w0 Zs Zb T0 ι0 x e,AWP ⟨P,some l,N,[],w0,Zs,Zb,T0,KB,ι0⟩ assign (fun e' s' => e' = .normal ∧ VC ⟨P,some l,N,[],w0,Zs,Zb,T0,KB,ι0⟩ s' ⟨envb e x,Hb e x⟩) (puts ⟨env,Hp x⟩ (ps.toList.zip (vals e)))
  body : ∀ w0 Zs Zb T0 ι0 nx x e,step nx e x = some r → AWP ⟨P,some l,N,[],w0,Zs,Zb,T0,KB,ι0⟩ body (fun e' s' => ∃ x',VC ⟨P,some l,N,[],w0,Zs,Zb,T0,KB,ι0⟩ s' ⟨[],Hp x'⟩ ∧
    ((e' = .normal ∧ nx x' = some r) ∨ ((e' = .ret ∨ ∃ id,e' = .exit id) ∧ M e' x'))) ⟨envb e x,Hb e x⟩
end
end Go.AB
namespace Go.AB
open Go
structure RgD where
  ms : List Nat
  w0 : World
  Zs : Nat → Prop
  Zb : Nat → Prop
  T0 : Nat → Prop
structure RgH {R : Type} (r : R) (w00 : World) (Zs0 Zb0 T00 : Nat → Prop) (g : Option R) (d : RgD) : Prop where
  g : g = some r
  tr : Trans T00 w00 d.w0
  own : ∀ b,d.T0 b → T00 b ∨ w00.heap.size ≤ b
  zs : ∀ b,d.Zs b → Zs0 b ∨ T00 b ∨ w00.heap.size ≤ b
  zb : ∀ b,d.Zb b → Zb0 b ∨ Zs0 b ∨ T00 b ∨ w00.heap.size ≤ b
  marks : ∀ B,B ∈ d.ms → d.w0.heap[B]? = some (.deferred (some [])) ∧ ¬ d.T0 B ∧ w00.heap.size ≤ B
  nodup : d.ms.Nodup
section
variable {P : Program} {N : Nat} {ι0 : Tags} {w00 : World} {Zs0 Zb0 T00 : Nat → Prop}
end
end Go.AB
namespace Go.AB
open Go
section
variable {E : Type} {P : Program} {N : Nat} {ι0 : Tags} {xs : List E} {Zs Zb : Nat → Prop} {J : List E → (Nat → Prop) → (Nat → Prop) → World → Prop} {Jx : (Nat → Prop) → (Nat → Prop) → World → Prop} {A : Array Oper} {ol : List Oper} {s : St}
end
section
variable {P : Program} {N : Nat} {ι0 : Tags} {w00 : World} {Zs0 Zb0 T00 : Nat → Prop}
end
end Go.AB
namespace Go.AB
end Go.AB
namespace Go.AB
open Go
def badN (R : List (List Nat)) (T : List Nat) (i : Nat) (S : List Nat) : Bool := anyT S i || S.any (fun k => pre R k i) || T.any (fun k => !anyT S k && pre R i k)
def nextN (T : List Nat) (i : Nat) (S S' : List Nat) : Bool := T.all (fun k => anyT S' k == (Nat.beq k i || anyT S k)) && S'.all (anyT T)
abbrev DNode := List Nat × List (Nat × Blk)
inductive NStep (C : Ctx) (A : Array Oper) (F : List DFact) (R : List (List Nat)) (T : List Nat) (Ns : List DNode) (i : Nat) (o : Oper) (x : DOp) (n : DNode) : Prop
  | bad (h : badN R T i n.1 = true)
  | stay (hT : anyT T i = false) (h : DStep C A o (needOf F x.need) n.2 x.dv x.T n.2)
  | turn {n' : DNode} (q : Nat) (hq : Ns[q]? = some n') (hn : nextN T i n.1 n'.1 = true) (h : DStep C A o (needOf F x.need) n.2 x.dv x.T n'.2)
inductive NSteps (C : Ctx) (A : Array Oper) (F : List DFact) (R : List (List Nat)) (T : List Nat) (Ns : List DNode) : Nat → List Oper → List DOp → Prop
  | nil (i : Nat) : NSteps C A F R T Ns i [] []
  | pure {i : Nat} {o : Oper} {os : List Oper} {x : DOp} {xs : List DOp} (hc : anyT T i = false) (h : ∀ H,DStep C A o (needOf F x.need) H x.dv x.T H)
      (t : NSteps C A F R T Ns (i + 1) os xs) : NSteps C A F R T Ns i (o :: os) (x :: xs)
  | each {i : Nat} {o : Oper} {os : List Oper} {x : DOp} {xs : List DOp} (h : AllL (NStep C A F R T Ns i o x) Ns)
      (t : NSteps C A F R T Ns (i + 1) os xs) : NSteps C A F R T Ns i (o :: os) (x :: xs)
end Go.AB
namespace Go.AB
open Go
theorem sliceAt_slice3 {P : Program} {w : World} {T E : TypeId} (hT : P.underlying T = some (.slice E)) {sz : Nat} (hE : szOf P E sz) (a : Option Addr) (n c : Nat) (lo : Option Value) (l h : Nat) (k1 k2 : IntKind)
    (hlo : (lo = none ∧ l = 0) ∨ ∃ k,lo = some (.int k l)) (h1 : l ≤ h) (h2 : h ≤ c) :
    (Instr.sliceAt T (.slice a n c) lo (some (.int k1 h)) (some (.int k2 h))).run P w = .ok (.slice (if h = l then a else a.map (·.add (l * sz))) (h - l) (h - l)) w := by
  have e1 : ∀ k code y,l ≤ y → (Instr.sliceBound (.int k l) y code).run P w = .ok l w := fun k code y hy => by
    have := run_sliceBound (P := P) w k (l : Int) y code (by omega) (by omega); simpa using this
  have e2 : ∀ k code y,h ≤ y → (Instr.sliceBound (.int k h) y code).run P w = .ok h w := fun k code y hy => by
    have := run_sliceBound (P := P) w k (h : Int) y code (by omega) (by omega); simpa using this
  rcases hlo with ⟨rfl,rfl⟩ | ⟨k3,rfl⟩ <;>
    simp [Instr.sliceAt,Instr.slice,run_underlying hT,Instr.sliceBounds,hE.run,e1,e2,h1,h2]
section
variable {C : Ctx} {d : Nat} {ty : TypeId} {p : String} {e : Array Edge} {g : Option (Nat × Bool)} {s : St}
theorem AStep.slX {α : Type} {enc : α → List AV} {sz : Nat} {x y z : Operand} {lo : Option Operand} {T E : TypeId} {β : Bool} {xs ys : List α} {n : Nat} {l h : Int} {k1 k2 : IntKind} (hd : d < C.N)
    (hx : Ev C s x (.rd β n (xs.flatMap enc))) (hT : C.P.underlying T = some (.slice E)) (hE : szOf C.P E sz) (henc : ∀ y,(enc y).length = sz) (hn : n = xs.length)
    (hl : BdI C s lo 0 l) (hy : Ev C s y (.sc (.int k1 h))) (hz : Ev C s z (.sc (.int k2 h))) (hs : slc xs l h = some ys) :
    AStep C ⟨some d,.slice T x lo (some y) (some z),ty,p,e,g⟩ s (s.put d (.rdx β ys.length (ys.flatMap enc))) := by
  obtain ⟨h1,h2,h3,rfl,h5⟩ := slcS hs
  subst hn
  refine .val hd (fun _ h => by cases h) fun ι a w r => ?_
  have hlv := (BdI.nat (d := 0) hl h1).val r
  have hyv : a.eval y = .int k1 (h.toNat : Nat) := by rw [hy.sc r,Int.toNat_of_nonneg (by omega)]
  have hzv : a.eval z = .int k2 (h.toNat : Nat) := by rw [hz.sc r,Int.toNat_of_nonneg (by omega)]
  rw [h5]
  have hlh : l.toNat ≤ h.toNat := by omega
  have hle : h.toNat ≤ xs.length := by omega
  generalize l.toNat = L at *
  generalize h.toNat = H at *
  rcases rd_inv (hx ι a w r) with ⟨⟨a0,hu⟩,hn,hcs⟩ | ⟨b,off,cap,vs,hu,hn,hc,hz',hv,hvr⟩
  · have hrun := sliceAt_slice3 (P := C.P) (w := w) hT hE a0 0 0 (lo.map a.eval) L H k1 k2 hlv hlh (by omega)
    have : xs = [] := List.eq_nil_of_length_eq_zero hn
    subst this
    have hl0 : H = 0 := by simpa using hle
    subst hl0
    have hl0 : L = 0 := by omega
    subst hl0
    refine ⟨.slice a0 0 0,?_,?_⟩
    · have hrun' : (Instr.sliceAt T (.slice a0 0 0) (lo.map a.eval) (some (.int k1 0)) (some (.int k2 0))).run C.P w = .ok (.slice a0 0 0) w := by simpa using hrun
      simp [execOp,hu,hyv,hzv]
      rw [hrun']
      rfl
    · simp
      exact .rdxnil _ _ _ _
  · have hrun := sliceAt_slice3 (P := C.P) (w := w) hT hE (Option.some ⟨b,off,Option.none⟩) xs.length cap (lo.map a.eval) L H k1 k2 hlv hlh (by omega)
    have hsub : ∀ i,i < (((xs.drop L).take (H - L)).flatMap enc).length → (((xs.drop L).take (H - L)).flatMap enc)[i]? = (xs.flatMap enc)[L * sz + i]? := fun i hi => by
      rw [← flatMap_take henc,← flatMap_drop henc] at hi ⊢
      rw [List.length_take] at hi
      rw [List.getElem?_take,if_pos (by omega),List.getElem?_drop]
    obtain ⟨q1,q2⟩ := VR.part (Z := fun _ => zone C s.heap ι w β) hv hvr hsub
    by_cases hcl : H = L
    · subst hcl
      refine ⟨.slice (Option.some ⟨b,off,Option.none⟩) (H - H) (H - H),?_,?_⟩
      · simp [execOp,hu,hyv,hzv]
        rw [hrun]
        simp
      · rw [Nat.sub_self]
        simp
        exact .rdxnil _ _ _ _
    · refine ⟨.slice (Option.some ⟨b,off + L * sz,Option.none⟩) (H - L) (H - L),?_,?_⟩
      · simp [execOp,hu,hyv,hzv]
        rw [hrun]
        simp [hcl,Addr.add_plain]
      · refine .rdx _ _ _ _ _ _ _ _ (fun hne => hz' fun hnil => hne ?_) (by omega) q1 q2
        have hlen := flatMap_length henc ((xs.drop L).take (H - L))
        have hlen2 := flatMap_length henc xs
        rw [hnil] at hlen2
        rw [List.length_take,List.length_drop] at hlen
        apply List.eq_nil_of_length_eq_zero
        rw [hlen]
        rcases Nat.eq_zero_or_pos sz with h | hpos
        · simp [h]
        · have : xs.length = 0 := by
            rcases Nat.eq_zero_or_pos xs.length with h | h
            · exact h
            · have := Nat.mul_pos h hpos
              rw [← hlen2] at this
              exact absurd this (by simp)
          simp [this]
theorem AStep.appX {α : Type} {enc : α → List AV} {x y : Operand} {T U E : TypeId} {t sz by_ n m : Nat} {β : Bool} {xs ys zs : List α} (hd : d < C.N) (hK : t ∉ C.K) (hx : Ev C s x (.rdx β n (xs.flatMap enc))) (hβ : β = false ∨ ∀ c ∈ xs.flatMap enc,c.scal = true)
    (hy : Src C s y sz m (ys.flatMap enc)) (hT : C.P.underlying T = some (.slice E)) (hU : ∃ D,C.P.underlying U = some D ∧ ∀ k,D ≠ .int k) (hE : elT C.P E sz by_)
    (henc : ∀ y,(enc y).length = sz) (hn : n = xs.length) (hm : m = ys.length) (hb : by_ ≤ 128) (hne : ys.length ≠ 0) (hz : apd xs ys = some zs) :
    AStep C ⟨some d,.call { callee := .builtin .append,args := #[x,y],argTypes := #[T,U] },ty,p,e,g⟩ s (s.newP d t ⟨E,true,zs.flatMap enc⟩ (.own t sz 0 zs.length)) := by
  obtain ⟨h1,rfl,h3⟩ := apdS hz
  subst hn hm
  have hbytes : (xs.length + ys.length) * by_ ≤ 140737488355328 := by
    have : (xs.length + ys.length) * by_ ≤ 1099511627776 * 128 := Nat.mul_le_mul h1 hb
    omega
  have h63 : xs.length + ys.length ≤ maxLen := by simp only [maxLen]; omega
  have hl := flatMap_length henc xs
  have hlxy := flatMap_length henc (xs ++ ys)
  rw [h3]
  refine .run (fun _ h => by cases h) fun ι a w r => ?_
  obtain ⟨i,z,hi,hz,hsz,hby,hzs⟩ := hE
  subst hsz hby
  obtain ⟨news,n1,n2,n3,n4,n5,n6⟩ := hy ι a w r
  have hexec : ∀ base n c,a.eval x = .slice base n c → (execOp a.eval ⟨some d,.call { callee := .builtin .append,args := #[x,y],argTypes := #[T,U] },ty,p,e,g⟩).run C.P w =
      ((Builtin.append_ #[T,U] ty #[.slice base n c,a.eval y]).run C.P w).andThen fun v w' => .ok (.value v) w' := by
    intro base n c hu
    simp [execOp,resolve,invoke,builtin,hu]
  have hany := fun base c olds => run_append_any (ty := ty) hT hi hz hU base xs.length c (a.eval y) ys.length news olds n1 n2
  have grow : ∀ (base : Option Addr) (c : Nat) (olds : List Value),a.eval x = .slice base xs.length c → c < xs.length + ys.length →
      (∀ w',w'.heap = w.heap → (Builtin.firstCells i.size xs.length (.slice base xs.length c)).run C.P w' = .ok olds.toArray w') → olds.length = xs.length * i.size →
      (∀ j (hj : j < (xs.flatMap enc).length),∃ u,olds[j]? = some u ∧ VR w (fun _ => zone C s.heap ι w false) (fun _ => none) ((xs.flatMap enc)[j]'hj) u) →
      ∃ u w' ι',(execOp a.eval ⟨some d,.call { callee := .builtin .append,args := #[x,y],argTypes := #[T,U] },ty,p,e,g⟩).run C.P w = .ok (.value u) w' ∧
        Rel C (s.newP d t ⟨E,true,(xs ++ ys).flatMap enc⟩ (.own t i.size 0 (xs.length + ys.length))) ι' (a.put (some d) u) w' := by
    intro base c olds hu hg hof hol hvr
    obtain ⟨c',hc1,hc2,hrun⟩ := (hany base c olds hof h63 hbytes).2 hg
    have hcs : (olds.toArray ++ news.toArray ++ Builtin.zeroCells z.cells (c' - (xs.length + ys.length))).size = c' * i.size := by
      have e1 : xs.length * i.size + ys.length * i.size + (c' - (xs.length + ys.length)) * i.size = c' * i.size := by rw [← Nat.add_mul,← Nat.add_mul]; congr 1; omega
      simp [size_zeroCells,hzs,hol,n3,e1]
    refine ⟨_,_,setT ι t w.heap.size,by rw [hexec base _ c hu,hrun]; rfl,?_⟩
    refine r.newL hd hK rfl rfl rfl rfl ?_ ?_ ?_
    · rw [hcs]
      have : (xs.length + ys.length) * i.size ≤ c' * i.size := Nat.mul_le_mul_right _ hc1
      rw [hlxy,List.length_append]; exact this
    · rw [List.flatMap_append]
      intro j hj
      obtain ⟨u,hu1,hu2⟩ := row_of (us := olds) (vs := news) (by rw [hl,hol]) hvr n6 j hj
      refine ⟨u,?_,hu2⟩
      rw [← Array.getElem?_toList]
      simp only [Array.toList_append]
      rw [List.getElem?_append_left (by rw [List.length_append] at hj ⊢; simp [hol,n3]; omega)]
      exact hu1
    · intro hb
      exact .own _ _ _ _ _ _ w.heap.size c' _ (by simp [setT]) hc1 hc2 hb (by rw [hcs]; omega)
  have hv := hx ι a w r
  generalize hu : a.eval x = u at hv
  generalize hcs : xs.flatMap enc = cs at hv hβ hl grow
  generalize hxl : xs.length = nx at hv
  cases hv with
  | rdxnil _ _ _ a0 =>
    have hx0 : xs = [] := List.eq_nil_of_length_eq_zero hxl
    subst hx0
    exact grow a0 0 [] (by simpa using hu) (by simp; omega) (fun w' _ => by cases a0 with | none => simp [Builtin.firstCells] | some a1 => simp [Builtin.firstCells,loadCells,loadCellsFrom]) (by simp) (fun j hj => absurd hj (by simp))
  | rdx _ _ _ _ _ b off vs hz' hc hv h =>
    subst hxl
    refine grow (some ⟨b,off,none⟩) xs.length ((List.range cs.length).map vs) hu (by omega) (fun w' hw' => firstCells_some (by simp [hl]) fun j hj => by
      rw [cell?_heap hw',hv j (by omega)]
      simp [show j < cs.length by omega]) (by simp [hl]) (fun j hj => ⟨vs j,by simp [hj],?_⟩)
    rcases hβ with rfl | hs
    · exact h j hj
    · have h2 := hs _ (List.getElem_mem hj)
      have h3 := h j hj
      generalize cs[j] = q at h2 h3
      cases q <;> simp [AV.scal] at h2
      rw [sc_inv h3]; exact .sc _ _ _
end
end Go.AB
namespace Go.AB
open Go
section
variable {C : Ctx} {s : St}
theorem VC.cell {t i : Nat} {k : Blk} {v v' : AV} (hk : look t s.heap = some k) (hl : k.lst = false) (hc : k.cells[i]? = some v) (h : ∀ w Z ι u,VR w Z ι v u → VR w Z ι v' u) :
    VC C s ⟨s.env,updH t ⟨k.ty,k.lst,k.cells.set i v'⟩ s.heap⟩ := by
  have hi := (List.getElem?_eq_some_iff.1 hc).1
  refine VC.cellsW hk rfl (by simp) (.inr fun hn => by rw [hn] at hi; cases hi) (fun hn => by rw [hn] at hi; cases hi) fun j hj hj' w Z ι u hZ hv => ?_
  simp only [hl,cond_false] at hv ⊢
  by_cases e : j = i
  · subst e
    have : k.cells[j] = v := by rw [List.getElem?_eq_getElem hj] at hc; exact Option.some.inj hc
    rw [this] at hv
    simp only [List.getElem_set_self]
    exact h _ _ _ _ hv
  · rw [List.getElem_set_ne (fun h => e h.symm)]
    exact hv
theorem VC.cellEq {t i : Nat} {k : Blk} {v v' : AV} (hk : look t s.heap = some k) (hl : k.lst = false) (hc : k.cells[i]? = some v) (h : v = v') :
    VC C s ⟨s.env,updH t ⟨k.ty,k.lst,k.cells.set i v'⟩ s.heap⟩ := VC.cell hk hl hc fun _ _ _ _ hv => h ▸ hv
end
end Go.AB
namespace Go.AB
inductive row8 : List AV → List UInt8 → Prop
  | n : row8 [] []
  | c {a : AV} {c : UInt8} {l : List AV} {l' : List UInt8} (h : a = .sc (.int .u8 (c.toNat : Int))) (t : row8 l l') : row8 (a :: l) (c :: l')
end Go.AB
namespace Go.AB
open Go
theorem RV.cell1 {C : Ctx} {s : St} {x T t off : Nat} {k : Blk} {c v : AV} (hx : look x s.env = some (.ptr t off)) (hT : oneT C.P T) (hk : look t s.heap = some k)
    (hc : k.cells[off]? = some c) (hv : v = k.out c) : RV C s (.cell x T) v := fun ι a w r => by
  subst hv
  obtain ⟨b,hu,ht⟩ := ptr_inv (r.env x _ hx)
  obtain ⟨cur,hb,hl,h⟩ := blk_inv r.core hk ht
  have hlt := (List.getElem?_eq_some_iff.1 hc).1
  obtain ⟨u,hu',hvr⟩ := h off hlt
  have he : k.cells[off] = c := by rw [List.getElem?_eq_getElem hlt] at hc; exact Option.some.inj hc
  rw [he] at hvr
  refine ⟨u,?_,out_VR hvr⟩
  have hcell : w.cell? ⟨b,off,none⟩ = some u := by rw [cell_of_row w b off cur k.ty (0,0) hb]; exact hu'
  simp [resVar,hu,asAddr,loadVar,hT.run,hcell]
mutual
theorem frzA_free {t : Nat} {F : List AV} : ∀ {v : AV},AV.free t v = true → frzA t F v = v
  | .own t' sz off n,h => by
    have : Nat.beq t' t = false := by
      simp only [AV.free,bne_iff_ne,ne_eq] at h
      exact beq_ne h
    simp [frzA,this]
  | .ownc t' sz n c,h => by
    have : Nat.beq t' t = false := by
      simp only [AV.free,bne_iff_ne,ne_eq] at h
      exact beq_ne h
    simp [frzA,this]
  | .ptr t' off,h => by
    have : Nat.beq t' t = false := by
      simp only [AV.free,bne_iff_ne,ne_eq] at h
      exact beq_ne h
    simp [frzA,this]
  | .agg cs,h => by simp only [frzA]; rw [frzL_free (by simpa [AV.free] using h)]
  | .tup cs,h => by simp only [frzA]; rw [frzL_free (by simpa [AV.free] using h)]
  | .clo f a b,h => by
    simp only [AV.free,Bool.and_eq_true] at h
    simp only [frzA]; rw [frzL_free h.1,frzL_free h.2]
  | .gd c v,h => by simp only [frzA]; rw [frzA_free (by simpa [AV.free] using h)]
  | .sc _,_ => by simp [frzA]
  | .rd _ _ _,_ => by simp [frzA]
  | .rdx _ _ _,_ => by simp [frzA]
  | .rptr _ _,_ => by simp [frzA]
  | .any,_ => by simp [frzA]
theorem frzL_free {t : Nat} {F : List AV} : ∀ {l : List AV},AV.freeL t l = true → frzL t F l = l
  | [],_ => rfl
  | a :: l,h => by
    simp only [AV.freeL,Bool.and_eq_true] at h
    simp only [frzL]; rw [frzA_free h.1,frzL_free h.2]
end
theorem DStep.appFrz {C : Ctx} {A : Array Oper} {op : Op} {ty : TypeId} {p : String} {e : Array Edge} {need : List (Nat × AV)} {H H' : List (Nat × Blk)} {α : Type} {enc : α → List AV} {xs : List α} {d t sz : Nat} {E0 : TypeId}
    (h : ∀ E,Need need E → AStep C ⟨some d,op,ty,p,e,none⟩ ⟨E,H⟩ (St.newP ⟨E,H⟩ d t ⟨E0,true,xs.flatMap enc⟩ (.own t sz 0 xs.length)))
    (hH : H' = frzH t (xs.flatMap enc) ((t,⟨E0,true,xs.flatMap enc⟩) :: purgeH t H)) (henc : ∀ y,(enc y).length = sz) :
    DStep C A ⟨some d,op,ty,p,e,none⟩ need H (some (d,.rd false xs.length (xs.flatMap enc))) [t] H' := fun E hE => by
  subst hH
  have hv := VC.frz (C := C) (s := St.newP ⟨E,H⟩ d t ⟨E0,true,xs.flatMap enc⟩ (.own t sz 0 xs.length)) (enc := enc) (d := d) (t := t) (sz := sz) (E := E0) (xs := xs) (look_cons_self _ _ _) (look_cons_self _ _ _) henc
  refine ⟨(d,.rd false xs.length (xs.flatMap enc)) :: frzE t (xs.flatMap enc) ((d,.own t sz 0 xs.length) :: purgeE t E),OStep.plain (fun ι a w K Q r hk => h E hE ι a w K Q r fun ι' a' w' r' => ?_),?_,?_⟩
  · obtain ⟨ι2,r2⟩ := hv ι' a' w' r'
    exact hk ι2 a' w' r2
  · intro d' v' hd; cases hd; simp [look_cons_self]
  · intro x v' hx hl hf
    have hxd : x ≠ d := hx d _ rfl
    have hf' : AV.free t v' = true := by simpa [freeOf] using hf
    rw [look_cons_ne hxd,look_frzE,look_cons_ne hxd,look_purgeE,hl]
    simp [purgeA,hf',frzA_free hf']
end Go.AB
namespace Go.AB
inductive BornL (D : List DOp) : List DFact → Prop
  | n : BornL D []
  | o {slot : Nat} {v : AV} {dies : List Nat} {F : List DFact} (t : BornL D F) : BornL D (⟨slot,v,none,dies⟩ :: F)
  | b {slot j : Nat} {v : AV} {dies : List Nat} {x : DOp} {F : List DFact} (h : D[j]? = some x) (hv : x.dv = some (slot,v)) (t : BornL D F) : BornL D (⟨slot,v,some j,dies⟩ :: F)
theorem BornL.ok {D : List DOp} {F : List DFact} (h : BornL D F) : BornOk D F := by
  induction h with
  | n => trivial
  | o t ih => exact ⟨trivial,ih⟩
  | b h hv t ih => exact ⟨⟨_,h,hv⟩,ih⟩
inductive BaseL (E : List (Nat × AV)) : List DFact → Prop
  | n : BaseL E []
  | o {slot : Nat} {v : AV} {dies : List Nat} {F : List DFact} (h : look slot E = some v) (t : BaseL E F) : BaseL E (⟨slot,v,none,dies⟩ :: F)
  | b {slot j : Nat} {v : AV} {dies : List Nat} {F : List DFact} (t : BaseL E F) : BaseL E (⟨slot,v,some j,dies⟩ :: F)
theorem BaseL.ok {E : List (Nat × AV)} {F : List DFact} (h : BaseL E F) : BaseOk E F := by
  induction h with
  | n => trivial
  | o h t ih => exact ⟨h,ih⟩
  | b t ih => exact ⟨trivial,ih⟩
end Go.AB
namespace Go.AB
open Go
theorem CvL.at {C : Ctx} {s : St} {σ : Nat → Nat} {H : List (Nat × Blk)} {bw : Bool} {vs vs' : List AV} (h : CvL C s σ H bw vs vs') : vs.length = vs'.length ∧ ∀ i (hi : i < vs.length) (hi' : i < vs'.length),Cv C s σ H bw vs[i] vs'[i] := by
  induction h with
  | nil => exact ⟨rfl,fun i hi => absurd hi (by simp)⟩
  | cons h t ih =>
    refine ⟨by simp [ih.1],fun i hi hi' => ?_⟩
    cases i with
    | zero => exact h
    | succ i => exact ih.2 i (by simpa using hi) (by simpa using hi')
theorem Cv.agg {C : Ctx} {s : St} {σ : Nat → Nat} {H : List (Nat × Blk)} {bw : Bool} {cs cs' : List AV} (h : CvL C s σ H bw cs cs') : Cv C s σ H bw (.agg cs) (.agg cs') := by
  intro K ι a w u r hH hv
  obtain ⟨h1,h2⟩ := h.at
  cases hv with
  | agg _ _ _ vs hl hv =>
    exact .agg _ _ _ vs (by omega) fun i hi => h2 i (by omega) hi K ι a w _ r hH (hv i (by omega))
end Go.AB
namespace Go.AB
open Go
section
variable {C : Ctx} {A : Array Oper} {op : Op} {ty : TypeId} {p : String} {e : Array Edge} {j dj : Nat} {b want a0 : Bool} {l : List Oper} {s s1 s2 : St}
end
section
variable {C : Ctx} {d : Nat} {ty : TypeId} {p : String} {e : Array Edge} {g : Option (Nat × Bool)} {s : St}
end
end Go.AB
namespace Go.AB
open Go
section
variable {C : Ctx} {s : St} {d : Nat} {ty : TypeId} {p : String} {e : Array Edge} {g : Option (Nat × Bool)}
end
section
variable {C : Ctx} {A : Array Oper} {op : Op} {ty : TypeId} {p : String} {e : Array Edge} {need : List (Nat × AV)} {H H' : List (Nat × Blk)} {j dj : Nat} {b want a0 : Bool} {dv : Option (Nat × AV)} {T : List Nat}
end
end Go.AB
namespace Go.AB
open Go
end Go.AB
namespace Go.AB
open Go
section
variable {C : Ctx} {s : St} {d : Nat} {ty : TypeId} {p : String} {e : Array Edge} {g : Option (Nat × Bool)} {x : Operand} {T E U : TypeId}
theorem AStepE.eqNil0 {β : Bool} {n : Nat} {cells : List AV} (hd : d < C.N) (hx : Ev C s x (.rd β n cells)) (hT : C.P.underlying T = some (.slice E)) :
    AStepE C ⟨some d,.binOp .eql T x (.const (.slice none 0 0)) U,ty,p,e,g⟩ s (fun q => s.put d (.sc (.bool (decide (n = 0 ∧ q = 0))))) := AStepE.eqNil hd hx hT false
end
end Go.AB
namespace Go.AB
open Go
section
variable {C : Ctx} {s : St} {d : Nat} {ty : TypeId} {p : String} {e : Array Edge} {g : Option (Nat × Bool)}
section
variable {T U : TypeId} {x y : Operand} {us vs : List Int} {fs : Array Field} (hd : d < C.N) (hx : Ev C s x (.agg (us.map fun v => .sc (.int .i64 v)))) (hy : Ev C s y (.agg (vs.map fun v => .sc (.int .i64 v))))
  (hT : C.P.underlying T = some (.struct fs)) (hf : FsI C.P 0 fs.toList) (hs : C.P.stoodInHeld T = false) (hG : C.P.eqGuardType C.P.depth T = false) (h1 : us.length = fs.size) (h2 : vs.length = fs.size)
include hd hx hy hT hf hs hG h1 h2
end
section
variable {α : Type} [DecidableEq α] {enc : α → List AV} {k : IntKind} {f : α → Int} {T E U : TypeId} {x y : Operand} {xs ys : List α} {n : Nat} (hd : d < C.N) (hx : Ev C s x (.agg (xs.flatMap enc))) (hy : Ev C s y (.agg (ys.flatMap enc)))
    (henc : ∀ y,enc y = [.sc (.int k (f y))]) (hf : ∀ a b,f a = f b → a = b) (hT : C.P.underlying T = some (.array n E)) (hE : C.P.underlying E = some (.int k)) (hz : szOf C.P E 1) (hG : C.P.eqGuardType C.P.depth T = false)
    (h1 : xs.length = n) (h2 : ys.length = n)
include hd hx hy henc hf hT hE hz hG h1 h2
end
end
end Go.AB
namespace Go.AB
open Go
theorem Res.sub {C : Ctx} {fn : Func} {s : St} {r : AV} {H H2 : List (Nat × Blk)} (hs : SubH H2 H) (h : Res C fn s r H) : Res C fn s r H2 := fun ι a w rel => by
  obtain ⟨v,ι',q1,q2,q3,q4,q5⟩ := h ι a w rel
  have hhas : ∀ t,has t H2 → has t H := fun t ⟨k,hk⟩ => ⟨k,hs.look hk⟩
  have hZ : ∀ β b,zone C H ι' w β b → zone C H2 ι' w β b := fun β b hz => ⟨hz.1,fun t ht => hz.2.1 t (hhas t ht),hz.2.2⟩
  refine ⟨v,ι',q1,q2,⟨fun t k hk => ?_,fun t t' b h1 h2 => q3.inj t t' b (hhas t h1) (hhas t' h2),fun t b ht => q3.own t b (hhas t ht),q3.tr⟩,q4.mono (fun _ _ h => h) _ _ hZ (fun _ _ _ _ _ h => h) (fun _ _ _ h => h),q5⟩
  have h0 := q3.blk t k (hs.look hk)
  unfold BlkR at h0 ⊢
  cases hx : ι' t with
  | none => simp only [hx] at h0 ⊢; exact h0
  | some b =>
    simp only [hx] at h0 ⊢
    obtain ⟨cur,p1,p2,p3⟩ := h0
    refine ⟨cur,p1,p2,fun i hi => ?_⟩
    obtain ⟨u,hu,hv⟩ := p3 i hi
    refine ⟨u,hu,hv.mono (fun _ _ h => h) _ _ ?_ (fun _ _ _ _ _ h => h) (fun _ _ _ h => h)⟩
    cases k.lst with
    | true => exact fun _ b hb => hZ _ _ hb
    | false => exact hZ
end Go.AB
namespace Go.AB
open Go
section
variable {C : Ctx} {s : St} {d : Nat} {ty : TypeId} {p : String} {e : Array Edge} {g : Option (Nat × Bool)}
section
variable {x : Operand} {T U : TypeId} {A B : Array TypeId} {b : Bool}
end
end
end Go.AB
namespace Go.AB
open Go
end Go.AB
namespace Go.AB
open Go
end Go.AB
namespace Go.AB
open Go
section
variable {C : Ctx} {s : St} {d : Nat} {ty : TypeId} {p : String} {e : Array Edge} {g : Option (Nat × Bool)}
theorem zeroCells_facts (cells : Array Value) (n : Nat) (h : ∀ z,z ∈ cells.toList → z.oneCell' = true) :
    (Builtin.zeroCells cells n).toList.length = n * cells.size ∧ ∀ z,z ∈ (Builtin.zeroCells cells n).toList → z.oneCell' = true := by
  unfold Builtin.zeroCells
  refine ⟨by simp,fun z hz => ?_⟩
  simp only [Array.toList_map,List.mem_map] at hz
  obtain ⟨i,hi,rfl⟩ := hz
  by_cases hc : i % cells.size < cells.size
  · rw [getElem!_pos cells _ hc]
    exact h _ (by simp)
  · have h0 : cells.size = 0 := by
      rcases Nat.eq_zero_or_pos cells.size with h | h
      · exact h
      · exact absurd (Nat.mod_lt _ h) hc
    simp [h0] at hi
theorem AStep.clearTail {x : Operand} {T E : TypeId} {t sz off n : Nat} {k : Blk} {zs : List Value} {cells : List AV} (hx : Ev C s x (.own t sz off n)) (hT : C.P.underlying T = some (.slice E)) (hE : zeroT C.P E zs) (hz1 : ∀ z,z ∈ zs → z.oneCell' = true) (hzs : zs.length = sz)
    (hk : look t s.heap = some k) (hc : cells = k.cells.take off) :
    AStep C ⟨none,.call { callee := .builtin .clear,args := #[x],argTypes := #[T] },ty,p,e,g⟩ s ⟨s.env,updH t { k with cells := cells } s.heap⟩ :=
  .run (fun _ h => by cases h) fun ι a w r => by
    subst hc
    obtain ⟨i,zv,hi,hv,hvz,hisz⟩ := hE
    have hweak : Rel C ⟨s.env,updH t { k with cells := k.cells.take off } s.heap⟩ ι a w :=
      r.weakB hk (by simp; omega) fun j hj => .inr (by
        have : j < off := by simp at hj; omega
        rw [List.getElem_take,List.getElem?_eq_getElem (by simp at hj; omega)])
    rcases own_inv (hx ι a w r) with ⟨rfl,hu⟩ | ⟨b,cap,q,hu,ht,hn,hcap,hs,ho⟩
    · refine ⟨.tuple #[],w,ι,?_,by simpa [Act.put] using hweak⟩
      rcases hu with hu | ⟨b,o,hu⟩ <;>
        simp [execOp,resolve,invoke,builtin,Builtin.clear_,hu,run_underlying hT]
    · obtain ⟨cur,hb,hl,h⟩ := blk_inv r.core hk ht
      have hq : q = cur.size := by
        simp only [bsz,hb] at hs
        exact (Option.some.inj hs).symm
      obtain ⟨z1,z2⟩ := zeroCells_facts zv.cells n (fun z hz => hz1 z (by rw [← hvz]; exact hz))
      have hsz : zv.cells.size = sz := by rw [← hzs,← hvz]; simp
      rw [hsz] at z1
      have hnm : n * sz ≤ cap * sz := Nat.mul_le_mul_right _ hn
      rcases Nat.eq_zero_or_pos n with h0 | h0
      · subst h0
        refine ⟨.tuple #[],w,ι,?_,by simpa [Act.put] using hweak⟩
        simp [execOp,resolve,invoke,builtin,Builtin.clear_,hu,run_underlying hT]
      obtain ⟨m,rfl⟩ : ∃ m,n = m + 1 := ⟨n - 1,by omega⟩
      have hst' := run_storeCells_at C.P b off k.ty (Builtin.zeroCells zv.cells (m + 1)).toList 0 cur w hb (by rw [z1]; omega) z2
      generalize hzl : (Builtin.zeroCells zv.cells (m + 1)).toList = us at hst' z1 z2
      have hcs' : (cur.toList.take (off + 0) ++ us ++ cur.toList.drop (off + 0 + us.length)).toArray.size = cur.size := by simp; omega
      have hbig := setRow_heap w b cur (cur.toList.take (off + 0) ++ us ++ cur.toList.drop (off + 0 + us.length)).toArray k.ty (0,0) hb
      have hoth : ∀ j,j ≠ b → (w.setRow b (cur.toList.take (off + 0) ++ us ++ cur.toList.drop (off + 0 + us.length)).toArray).heap[j]? = w.heap[j]? := fun j hj => setRow_other w b j _ hj
      refine ⟨.tuple #[],w.setRow b (cur.toList.take (off + 0) ++ us ++ cur.toList.drop (off + 0 + us.length)).toArray,ι,?_,?_⟩
      · simp [execOp,resolve,invoke,builtin,Builtin.clear_,hu,run_underlying hT,zeroValue,typeInfo,hi,hv,hzl,hst']
      · generalize hW : w.setRow b (cur.toList.take (off + 0) ++ us ++ cur.toList.drop (off + 0 + us.length)).toArray = W at hbig hoth ⊢
        have hsz : ∀ x q,bsz w x = some q → bsz W x = some q := by
          intro x q hx
          by_cases e : x = b
          · subst e
            simp only [bsz,hb] at hx
            simp only [bsz,hbig,hcs']
            exact hx
          · simp only [bsz,hoth x e]; exact hx
        have hcell : ∀ β x o y',zone C s.heap ι w β x → w.cell? ⟨x,o,none⟩ = some y' → W.cell? ⟨x,o,none⟩ = some y' := by
          rintro β x o y' ⟨_,h2,_⟩ hy'
          have hne : x ≠ b := fun e => h2 t ⟨k,hk⟩ (by rw [ht,e])
          rw [World.cell?_of_block (a := ⟨x,o,none⟩) (hoth x hne)]; exact hy'
        have r2 : Rel C ⟨s.env,updH t { k with cells := k.cells.take off } s.heap⟩ ι a W := by
          refine r.write (w' := W) hk ht (by rw [← hW]; rfl) (by rw [← hW]; rfl) (by rw [← hW]; rfl) (by rw [← hW]; simp) hoth (k' := { k with cells := k.cells.take off }) hb hbig hcs' (by rw [hcs']; simp; omega) ?_
          intro j hj
          have hj1 : j < off := by simp at hj; omega
          have hj2 : j < k.cells.length := by simp at hj; omega
          obtain ⟨u,hu',hvr⟩ := h j hj2
          refine ⟨u,?_,?_⟩
          · rw [← Array.getElem?_toList]
            simp only [List.append_assoc]
            rw [List.getElem?_append_left (by simp; omega),List.getElem?_take,if_pos (by omega),Array.getElem?_toList]
            exact hu'
          · rw [List.getElem_take]
            refine hvr.mono hsz _ _ (fun _ _ h => h) ?_ (fun _ _ _ h => h)
            cases k.lst with
            | true => exact fun _ x o y' hz => hcell false x o y' hz
            | false => exact hcell
        simpa [Act.put] using r2
theorem AStep.slPart {α : Type} {sz n : Nat} {x : Operand} {lo : Option Operand} {T E : TypeId} {t : Nat} {xs zs : List α} {l : Int} (hd : d < C.N) (hx : Ev C s x (.own t sz 0 n)) (hT : C.P.underlying T = some (.slice E)) (hE : szOf C.P E sz)
    (hn : n = xs.length) (hl : BdI C s lo 0 l) (hz : slc xs 0 l = some zs) :
    AStep C ⟨some d,.slice T x lo none none,ty,p,e,g⟩ s (s.put d (.own t sz (0 + l.toNat * sz) (xs.length - l.toNat))) := by
  obtain ⟨_,h1,h2,_,_⟩ := slcS hz
  subst hn
  exact AStep.sliceOwn (h := xs.length) hd hx hT hE (hl.nat (d := 0) (by omega)) (.inl ⟨rfl,rfl⟩) (by omega) (Nat.le_refl _)
theorem AStep.slHead {α : Type} {sz n : Nat} {x : Operand} {hi : Option Operand} {T E : TypeId} {t : Nat} {xs zs : List α} {l : Int} (hd : d < C.N) (hx : Ev C s x (.own t sz 0 n)) (hT : C.P.underlying T = some (.slice E)) (hE : szOf C.P E sz)
    (hn : n = xs.length) (hl : BdI C s hi xs.length l) (hz : slc xs 0 l = some zs) :
    AStep C ⟨some d,.slice T x none hi none,ty,p,e,g⟩ s (s.put d (.own t sz 0 zs.length)) := by
  obtain ⟨_,h1,h2,_,h4⟩ := slcS hz
  subst hn
  have := AStep.sliceOwn (ty := ty) (p := p) (e := e) (g := g) (l := 0) (h := l.toNat) hd hx hT hE (.inl ⟨rfl,rfl⟩) (hl.nat (d := xs.length) (by omega)) (by omega) (by omega)
  rw [show (0 + 0 * sz) = 0 from by omega,show l.toNat - 0 = zs.length from by rw [h4]; rfl] at this
  exact this
end
theorem takeF {α : Type} {enc : α → List AV} {sz : Nat} (henc : ∀ y,(enc y).length = sz) {xs zs : List α} {l : Int} (hz : slc xs 0 l = some zs) : zs.flatMap enc = (xs.flatMap enc).take (0 + l.toNat * sz) := by
  obtain ⟨_,h1,h2,h3,_⟩ := slcS hz
  rw [h3,Nat.zero_add,flatMap_take henc]
  rfl
end Go.AB
