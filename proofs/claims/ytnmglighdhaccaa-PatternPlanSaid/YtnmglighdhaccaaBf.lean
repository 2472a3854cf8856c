import Derived.Test.YtnmglighdhaccaaBc
import Derived.Test.YtnmglighdhaccaaBe
import Derived.SizedLaws
set_option linter.unusedVariables false
namespace Go.AB
open Go Go.ChangeShapes Go.WideShapes Go.ChangeAt Go.RowKit
def OpN (P : Program) (T : TypeId) {α : Type} (enc : α → List AV) (wf : α → Prop) (N : Nat) : Prop :=
  ∀ (H : Type) (e : TypeId × Value → H) (W : World) (fuel : Nat) (cs : List Value) (x : DataW H × List MemPlace),fuel ≤ N → DataW.trod e P W 0 (fun _ => true) true fuel T cs = some x → (∀ n ∈ x.1.weights P T,n ≤ reachBytes) →
    ∃ y,wf y ∧ cs.length = (enc y).length ∧ ∀ i (hi : i < (enc y).length),∃ u,cs[i]? = some u ∧ VR W (oldZ W) noT ((enc y)[i]'hi) u
inductive OpFN (P : Program) (N : Nat) : List TypeId → {σ : Type} → (σ → List AV) → (σ → Prop) → Prop
  | nil : OpFN P N [] (σ := Unit) (fun _ => []) (fun _ => True)
  | cons {T : TypeId} {Ts : List TypeId} {α σ : Type} {enc : α → List AV} {wf : α → Prop} {avs : σ → List AV} {wfs : σ → Prop} (h : OpN P T enc wf N) (t : OpFN P N Ts avs wfs) :
      OpFN P N (T :: Ts) (σ := α × σ) (fun x => enc x.1 ++ avs x.2) (fun x => wf x.1 ∧ wfs x.2)
def OpensW (P : Program) (T : TypeId) {α : Type} (av : α → AV) (wf : α → Prop) : Prop :=
  ∀ (H : Type) (enc : TypeId × Value → H) (W : World) (base : Nat) (v : Value) (d : DataW H) (ps : List MemPlace),Value.okWide P W .any base T v → DataW.Trod enc P W 0 (fun _ => true) true T v d ps → (∀ n ∈ d.weights P T,n ≤ reachBytes) →
    ∃ y,wf y ∧ VR W (oldZ W) noT (av y) v
inductive OpensLW (P : Program) : List TypeId → {σ : Type} → (σ → List AV) → (σ → Prop) → Prop
  | nil : OpensLW P [] (σ := Unit) (fun _ => []) (fun _ => True)
  | cons {T : TypeId} {Ts : List TypeId} {α σ : Type} {av : α → AV} {wf : α → Prop} {avs : σ → List AV} {wfs : σ → Prop} (h : OpensW P T av wf) (t : OpensLW P Ts avs wfs) :
      OpensLW P (T :: Ts) (σ := α × σ) (fun x => av x.1 :: avs x.2) (fun x => wf x.1 ∧ wfs x.2)
end Go.AB
namespace Go.AB
open Go
mutual
def AV.zf : AV → Bool
  | .sc _ => true
  | .own _ _ _ _ => true
  | .ownc _ _ _ _ => true
  | .ptr _ _ => true
  | .any => true
  | .rd _ _ cs => cs.isEmpty
  | .agg cs => AV.zfL cs
  | .tup cs => AV.zfL cs
  | .clo _ a c => AV.zfL a && AV.zfL c
  | .gd _ v => AV.zf v
  | _ => false
def AV.zfL : List AV → Bool
  | [] => true
  | a :: l => AV.zf a && AV.zfL l
end
inductive ZH : List (Nat × Blk) → Prop
  | n : ZH []
  | c {t : Nat} {k : Blk} {l : List (Nat × Blk)} (h : ∀ c,c ∈ k.cells → c.zf = true) (r : ZH l) : ZH ((t,k) :: l)
section
variable {E : Type} {P : Program} {N : Nat} {ι0 : Tags} {xs : List E} {Zs Zb : Nat → Prop} {J : List E → (Nat → Prop) → (Nat → Prop) → World → Prop} {Jx : (Nat → Prop) → (Nat → Prop) → World → Prop}
end
section
variable {P : Program} {N : Nat} {ι0 : Tags} {w00 : World} {Zs0 Zb0 T00 : Nat → Prop}
end
section
variable {C : Ctx} {s : St} {d : Nat} {ty : TypeId} {p : String} {e : Array Edge} {g : Option (Nat × Bool)} {x : Operand} {T E U : TypeId}
end
section
variable {E : Type} {P : Program} {N : Nat} {ι0 : Tags} {xs : List E} {Zs Zb : Nat → Prop} {J : List E → (Nat → Prop) → (Nat → Prop) → World → Prop} {Jx : (Nat → Prop) → (Nat → Prop) → World → Prop} {A : Array Oper} {ol : List Oper} {s : St}
end
section
variable {P : Program} {N : Nat} {ι0 : Tags} {w00 : World} {Zs0 Zb0 T00 : Nat → Prop}
end
end Go.AB
namespace Go.AB
open Go
def GivenOk (W : World) (Z : Zone) (κ : Tags) (H : List (Nat × Blk)) : Prop :=
  (∀ t k,look t H = some k → BlkR W Z κ t k) ∧ ∀ t t' b,has t H → has t' H → κ t = some b → κ t' = some b → t = t'
def RoundOkG {E : Type} (P : Program) (l : Nat) (vals : E → List AV) (Hg : E → List (Nat × Blk)) (xs : List E) (Zs Zb : Nat → Prop) (J : List E → (Nat → Prop) → (Nat → Prop) → World → Prop) (Jx : (Nat → Prop) → (Nat → Prop) → World → Prop) : Prop :=
  ∀ pre x rest O I W (Z : Zone) (κ : Tags) us,xs = pre ++ x :: rest → J pre O I W → (∀ b,O b → I b) → (∀ b,I b → b < W.heap.size) → (∀ b,ownedBy (Hg x) κ b → O b) → GivenOk W Z κ (Hg x) →
    (∀ β b,Z β b → b < W.heap.size ∧ ¬ O b ∧ (Zs b ∨ (β = true ∧ Zb b) ∨ I b)) → VRs W Z κ (vals x) us →
    YieldAt (Fc none) 0 P l us.toArray W fun e W' => Kept (fun b => (O b ∧ ¬ ownedBy (Hg x) κ b) ∨ Z false b ∨ Z true b) W W' ∧ (∀ b,I b → ¬ ownedBy (Hg x) κ b → W'.heap[b]? = W.heap[b]?) ∧
      ((e = .returned (.bool true) ∧ J (pre ++ [x]) (fun b => O b ∧ ¬ ownedBy (Hg x) κ b) (fun b => I b ∧ ¬ ownedBy (Hg x) κ b) W') ∨ (e = .returned (.bool false) ∧ Jx (fun b => O b ∧ ¬ ownedBy (Hg x) κ b) (fun b => I b ∧ ¬ ownedBy (Hg x) κ b) W'))
def ItSpecG (P : Program) (f : FuncId) (avs : List AV) (H : List (Nat × Blk)) {E : Type} (vals : E → List AV) (Hg : E → List (Nat × Blk)) (xs : List E) : Prop :=
  callable P f ∧ ∀ (Zs Zb : Nat → Prop) (ι : Tags) (w : World) (vs : List Value) (N : Nat) (dfr : List Deferred) (ro : Option Nat),
    Core ⟨P,ro,N,dfr,w,Zs,Zb,ownedBy H ι,[],ι⟩ H ι w → VRs w (zone ⟨P,ro,N,dfr,w,Zs,Zb,ownedBy H ι,[],ι⟩ H ι w) ι avs vs →
    ∀ (l : Nat) (J : List E → (Nat → Prop) → (Nat → Prop) → World → Prop) (Jx : (Nat → Prop) → (Nat → Prop) → World → Prop),(∀ pre,Abide (J pre)) → Abide Jx → RoundOkG P l vals Hg xs Zs Zb J Jx →
    J [] (ownedBy H ι) (ownedBy H ι) w →
    CallsIn (Fc none) 0 P f (Value.func (.yield l) #[] #[] :: vs).toArray w fun e W' => (∃ v,e = .returned v) ∧ ∃ O' I',J xs O' I' W' ∨ Jx O' I' W'
def RgJG (P : Program) (N : Nat) (KB : List Nat) (ιs : Tags) (env : List (Nat × AV)) (tm : Array Value) (Hx : List (Nat × Blk)) (ws : World) (own0 : Nat → Prop) (z0 : Bool → Nat → Prop) (l D : Nat) (rec : Loop)
    (O I : Nat → Prop) (W : World) : Prop := RgJ P N KB ιs env tm Hx ws own0 z0 l D rec O I W ∧ ¬ I l ∧ ¬ I D
section
variable {P : Program} {N : Nat} {KB : List Nat} {ιs : Tags} {env : List (Nat × AV)} {tm : Array Value} {Hx : List (Nat × Blk)} {ws : World} {own0 : Nat → Prop} {z0 : Bool → Nat → Prop} {l D : Nat} {rec : Loop}
theorem RgJG.abide : Abide (RgJG P N KB ιs env tm Hx ws own0 z0 l D rec) := by
  intro O O' I I' W W' hJ tr hO hI
  have hlW : l < W.heap.size := (Array.getElem?_eq_some_iff.1 hJ.1.rc).1
  have hDW : D < W.heap.size := (Array.getElem?_eq_some_iff.1 hJ.1.mark).1
  refine ⟨RgJ.abide _ _ _ _ _ _ hJ.1 tr hO hI,fun h => ?_,fun h => ?_⟩
  · rcases (hI l).1 h with h | h
    · exact hJ.2.1 h
    · omega
  · rcases (hI D).1 h with h | h
    · exact hJ.2.2 h
    · omega
end
section
variable {P : Program} {N : Nat} {KB : List Nat} {ιs : Tags} {env : List (Nat × AV)} {tm : Array Value} {ws : World} {own0 : Nat → Prop} {z0 : Bool → Nat → Prop} {l D : Nat}
variable {σ : Type} {Hp : σ → List (Nat × Blk)} {ps : Array Nat} {assign body : Code} {M : Exit → σ → Prop} {fn : FuncId}
theorem RgJG.round1 {Hs Hbx : List (Nat × Blk)} {envbx : List (Nat × AV)} {vs : List AV} {us : List Value} {O I Zs Zb : Nat → Prop} {W : World} {Z : Zone} {ι : Tags} {G : σ → Prop}
    (hz0 : ∀ β b,z0 β b → ¬ own0 b ∧ b < ws.heap.size) (htag : ∀ t v,look t env = some v → ∀ t',AV.free t' v = false → t' ∈ KB)
    (r0 : Rel ⟨P,none,N,[],W,Zs,Zb,ownedBy Hs ι,KB,ιs⟩ ⟨env,Hs⟩ ι ⟨tm,[]⟩ W) (h1 : ∀ b,ownedBy Hs ι b → ¬ I b ∧ ¬ O b ∧ (own0 b ∨ ws.heap.size ≤ b)) (h2 : ∀ b,Zs b ∨ Zb b → b < W.heap.size ∧ ¬ O b)
    (h3 : ∀ b,Zs b → z0 false b ∨ own0 b ∨ ws.heap.size ≤ b) (h4 : ∀ b,Zb b → z0 true b ∨ z0 false b ∨ own0 b ∨ ws.heap.size ≤ b)
    (rc : W.heap[l]? = some (.loop (recOf fn tm ps assign body D .ready none))) (mark : W.heap[D]? = some (.deferred (some []))) (lO : ¬ O l ∧ ¬ O D) (lI : ¬ I l ∧ ¬ I D) (lws : ws.heap.size ≤ l ∧ ws.heap.size ≤ D ∧ l ≠ D)
    (oo : ∀ b,O b → own0 b ∨ ws.heap.size ≤ b) (oi : ∀ b,I b → own0 b ∨ ws.heap.size ≤ b) (tr0 : Trans own0 ws W)
    (hps : ∀ p,p ∈ ps.toList → p < N) (hvl : vs.length = ps.size)
    (hA : ∀ w0 Zs Zb T0 ι0,AWP ⟨P,some l,N,[],w0,Zs,Zb,T0,KB,ι0⟩ assign (fun e' s' => e' = .normal ∧ VC ⟨P,some l,N,[],w0,Zs,Zb,T0,KB,ι0⟩ s' ⟨envbx,Hbx⟩) (puts ⟨env,Hs⟩ (ps.toList.zip vs)))
    (hBd : ∀ w0 Zs Zb T0 ι0,AWP ⟨P,some l,N,[],w0,Zs,Zb,T0,KB,ι0⟩ body (fun e' s' => ∃ x',VC ⟨P,some l,N,[],w0,Zs,Zb,T0,KB,ι0⟩ s' ⟨[],Hp x'⟩ ∧ ((e' = .normal ∧ G x') ∨ ((e' = .ret ∨ ∃ id,e' = .exit id) ∧ M e' x'))) ⟨envbx,Hbx⟩)
    (hOI : ∀ b,O b → I b) (hIlt : ∀ b,I b → b < W.heap.size) (hZ : ∀ β b,Z β b → b < W.heap.size ∧ ¬ O b ∧ (z0 false b ∨ (β = true ∧ z0 true b) ∨ I b)) (hvs : VRs W Z ι vs us) :
    YieldAt (Fc none) 0 P l us.toArray W fun e W' => Kept (fun b => O b ∨ Z false b ∨ Z true b) W W' ∧ (∀ b,I b → W'.heap[b]? = W.heap[b]?) ∧
      ((e = .returned (.bool true) ∧ ∃ x,G x ∧ RgJG P N KB ιs env tm (Hp x) ws own0 z0 l D (recOf fn tm ps assign body D .ready none) O I W') ∨
        (e = .returned (.bool false) ∧ ∃ x e2 c,((e2 = .ret ∧ c = Code.ret) ∨ ∃ id,e2 = .exit id ∧ c = .exit id) ∧ M e2 x ∧ RgJG P N KB ιs env tm (Hp x) ws own0 z0 l D (recOf fn tm ps assign body D .done (some c)) O I W')) := by
  have hlW : l < W.heap.size := (Array.getElem?_eq_some_iff.1 rc).1
  have hDW : D < W.heap.size := (Array.getElem?_eq_some_iff.1 mark).1
  have notCells : ∀ {w : World} {b : Nat} {o : Obj},w.heap[b]? = some o → o.isCells = false → ∀ {c ty n},w.heap[b]? ≠ some (.cells c ty n) := by
    intro w b o h ho c ty n h'
    rw [h] at h'
    cases h'
    simp [Obj.isCells] at ho
  have own_l : ∀ {C : Ctx} {H : List (Nat × Blk)} {ι : Tags} {w : World} {b : Nat} {o : Obj},Core C H ι w → w.heap[b]? = some o → o.isCells = false → ¬ ownedBy H ι b := by
    intro C H ι w b o hc h ho hb
    obtain ⟨c,ty,n,h'⟩ := owned_lt hc hb
    exact notCells h ho h'
  -- the round's first context
  let C1 : Ctx := ⟨P,some l,N,[],W,fun b => Zs b ∨ Z false b,fun b => Zb b ∨ Z true b,ownedBy Hs ι,KB,ιs⟩
  have hZown : ∀ β b,Z β b → ¬ ownedBy Hs ι b := by
    intro β b hz ho
    obtain ⟨_,_,h⟩ := hZ β b hz
    rcases h with h | ⟨_,h⟩ | h
    · have := hz0 _ _ h
      rcases (h1 b ho).2.2 with h5 | h5
      · exact this.1 h5
      · omega
    · have := hz0 _ _ h
      rcases (h1 b ho).2.2 with h5 | h5
      · exact this.1 h5
      · omega
    · exact (h1 b ho).1 h
  have hzone1 : ∀ β b,zone ⟨P,none,N,[],W,Zs,Zb,ownedBy Hs ι,KB,ιs⟩ Hs ι W β b → zone C1 Hs ι W β b := by
    intro β b hz
    refine ⟨hz.1,hz.2.1,?_⟩
    rcases zone_at hz with ⟨e1,h⟩ | h
    · exact .inl ⟨e1,.inl h⟩
    · exact .inr (.inl (.inl h))
  have hzoneZ : ∀ β b,Z β b → zone C1 Hs ι W β b := by
    intro β b hz
    refine ⟨(hZ β b hz).1,fun t ht e1 => hZown β b hz ⟨t,ht,e1⟩,?_⟩
    cases β with
    | true => exact .inl ⟨rfl,.inr hz⟩
    | false => exact .inr (.inl (.inr hz))
  have r1 : Rel C1 ⟨env,Hs⟩ ι ⟨tm,[]⟩ W := by
    refine ⟨r0.size,rfl,fun d v hl => (r0.env d v hl).mono (fun _ _ h => h) _ _ hzone1 (fun _ _ _ _ _ h => h) (fun _ _ _ h => h),⟨fun t kk hk => ?_,r0.core.inj,r0.core.own,Trans.refl _ _⟩,r0.stab⟩
    have h0 := r0.core.blk t kk hk
    unfold BlkR at h0 ⊢
    cases hxx : ι t with
    | none => simp only [hxx] at h0 ⊢; exact h0
    | some b =>
      simp only [hxx] at h0 ⊢
      obtain ⟨cur,q1,q2,q3⟩ := h0
      refine ⟨cur,q1,q2,fun i hi => ?_⟩
      obtain ⟨u,hu,hv⟩ := q3 i hi
      refine ⟨u,hu,hv.mono (fun _ _ h => h) _ _ ?_ (fun _ _ _ _ _ h => h) (fun _ _ _ h => h)⟩
      cases kk.lst with
      | true => exact fun _ b hb => hzone1 _ _ hb
      | false => exact hzone1
  have hvs1 : VRs W (zone C1 Hs ι W) ι vs us := ⟨hvs.1,fun i hi => by
    obtain ⟨u,hu,hv⟩ := hvs.2 i hi
    exact ⟨u,hu,hv.mono (fun _ _ h => h) _ _ hzoneZ (fun _ _ _ _ _ h => h) (fun t b _ h => h)⟩⟩
  have r2 := Rel.puts (ps.toList) vs us r1 hps (by rw [hvl]; simp) hvs1
  have husz : us.toArray.size = ps.size := by rw [List.size_toArray,hvs.1,hvl]
  have hy := run_yield (P := P) (args := us.toArray) rc (by simpa [recOf] using husz)
  have hfold : (ps.zip us.toArray).foldl (fun tmps q => tmps.setIfInBounds q.1 q.2) tm = (ps.toList.zip us).foldl (fun t q => t.setIfInBounds q.1 q.2) tm := by
    rw [← Array.foldl_toList]
    simp
  refine ⟨fn,_,assign,body,hy,roundIn_of_wpIn trivial ?_⟩
  have ha := hA W (fun b => Zs b ∨ Z false b) (fun b => Zb b ∨ Z true b) (ownedBy Hs ι) ιs ι ⟨(ps.toList.zip us).foldl (fun t q => t.setIfInBounds q.1 q.2) tm,[]⟩ W r2
  rw [show (Array.zip (recOf fn tm ps assign body D .ready none).params us.toArray).foldl (fun tmps x => match x with | (t,a) => tmps.setIfInBounds t a) (recOf fn tm ps assign body D .ready none).tmps = _ from hfold]
  refine wpIn_mono ha ?_
  rintro e1 a1 w1 ⟨s1,ι1,r3,rfl,hvc⟩
  obtain ⟨ι2,r4⟩ := hvc ι1 a1 w1 r3
  have tr1 : Trans (ownedBy Hs ι) W w1 := r4.core.tr
  have nl : ¬ ownedBy Hs ι l := own_l r0.core rc rfl
  have nD : ¬ ownedBy Hs ι D := own_l r0.core mark rfl
  have hl1 : w1.heap[l]? = some (.loop (recOf fn tm ps assign body D .ready none)) := by rw [tr1.block l hlW nl]; exact rc
  have hD1 : w1.heap[D]? = some (.deferred (some [])) := by rw [tr1.block D hDW nD]; exact mark
  refine ⟨_,run_beginRound hl1 rfl,?_⟩
  have kp1 : ∀ B,Kept B w1 (w1.putObj l (.loop { recOf fn tm ps assign body D .ready none with state := .busy })) := fun B => Kept.putObj hl1 rfl
  have hl2 : (w1.putObj l (.loop { recOf fn tm ps assign body D .ready none with state := .busy })).heap[l]? = some (.loop { recOf fn tm ps assign body D .ready none with state := .busy }) := World.putObj_heap_same (Array.getElem?_eq_some_iff.1 hl1).1
  have hD2 : (w1.putObj l (.loop { recOf fn tm ps assign body D .ready none with state := .busy })).heap[D]? = some (.deferred (some [])) := (World.putObj_heap_other lws.2.2.symm).trans hD1
  have sz2 : (w1.putObj l (.loop { recOf fn tm ps assign body D .ready none with state := .busy })).heap.size = w1.heap.size := by simp
  have tr2 : Trans own0 ws (w1.putObj l (.loop { recOf fn tm ps assign body D .ready none with state := .busy })) := (tr0.comp tr1 fun b hb => (h1 b hb).2.2).putObj hl1 rfl lws.1
  have ob2 : ∀ b,b ≠ l → (w1.putObj l (.loop { recOf fn tm ps assign body D .ready none with state := .busy })).heap[b]? = w1.heap[b]? := fun b hb => World.putObj_heap_other hb
  generalize w1.putObj l (.loop { recOf fn tm ps assign body D .ready none with state := .busy }) = w2 at kp1 hl2 hD2 sz2 tr2 ob2 ⊢
  have r5 := r4.anew (some l) (dfr := []) (tm := a1.tmps) rfl (kp1 _)
  have ea : a1 = ⟨a1.tmps,[]⟩ := by
    have := r4.dfr
    obtain ⟨u,v⟩ := a1
    simp only at this
    subst this
    rfl
  rw [ea]
  have hb := hBd w2 (fun b => zone C1 Hbx ι2 w1 false b) (fun b => zone C1 Hbx ι2 w1 true b) (ownedBy Hbx ι2) ιs ι2 ⟨a1.tmps,[]⟩ w2 r5
  refine wpIn_mono hb ?_
  rintro e3 a3 w3 ⟨s3,ι3',r6,x',hvc3,hend⟩
  obtain ⟨ι3,r7⟩ := hvc3 ι3' a3 w3 r6
  have tr3 : Trans (ownedBy Hbx ι2) w2 w3 := r7.core.tr
  have hws : ws.heap.size ≤ W.heap.size := tr0.size
  have sz1 : W.heap.size ≤ w1.heap.size := tr1.size
  have sz3 : w2.heap.size ≤ w3.heap.size := tr3.size
  have o12 : ∀ b,ownedBy Hbx ι2 b → W.heap.size ≤ b ∨ ownedBy Hs ι b := by
    rintro b ⟨t,ht,et⟩
    exact r4.core.own t b ht et
  have o23 : ∀ b,ownedBy (Hp x') ι3 b → w2.heap.size ≤ b ∨ ownedBy Hbx ι2 b := by
    rintro b ⟨t,ht,et⟩
    exact r7.core.own t b ht et
  have nl2 : ¬ ownedBy Hbx ι2 l := own_l r5.core hl2 rfl
  have nD2 : ¬ ownedBy Hbx ι2 D := own_l r5.core hD2 rfl
  have hl3 : w3.heap[l]? = some (.loop { recOf fn tm ps assign body D .ready none with state := .busy }) := by rw [tr3.block l (by omega) nl2]; exact hl2
  have hD3 : w3.heap[D]? = some (.deferred (some [])) := by rw [tr3.block D (by omega) nD2]; exact hD2
  have zc1 : ∀ β b,zone C1 Hbx ι2 w1 β b → ¬ O b ∧ (β = false → z0 false b ∨ own0 b ∨ ws.heap.size ≤ b) ∧ (z0 true b ∨ z0 false b ∨ own0 b ∨ ws.heap.size ≤ b) := by
    intro β b hz
    have fromZ : ∀ β',Z β' b → ¬ O b ∧ (β' = false → z0 false b ∨ own0 b ∨ ws.heap.size ≤ b) ∧ (z0 true b ∨ z0 false b ∨ own0 b ∨ ws.heap.size ≤ b) := by
      intro β' h
      obtain ⟨_,q1,q2⟩ := hZ β' b h
      refine ⟨q1,fun e0 => ?_,?_⟩
      · rcases q2 with q | ⟨q,_⟩ | q
        · exact .inl q
        · rw [e0] at q; cases q
        · exact .inr (oi b q)
      · rcases q2 with q | ⟨_,q⟩ | q
        · exact .inr (.inl q)
        · exact .inl q
        · exact .inr (.inr (oi b q))
    rcases hz.2.2 with ⟨e0,h | h⟩ | (h | h) | h | h
    · exact ⟨(h2 b (.inr h)).2,(fun e1 => by rw [e0] at e1; cases e1),h4 b h⟩
    · have := fromZ true h
      exact ⟨this.1,(fun e1 => by rw [e0] at e1; cases e1),this.2.2⟩
    · exact ⟨(h2 b (.inl h)).2,fun _ => h3 b h,.inr (h3 b h)⟩
    · have := fromZ false h
      exact ⟨this.1,fun _ => this.2.1 rfl,this.2.2⟩
    · have h : W.heap.size ≤ b := h
      exact ⟨fun ho => by have := hIlt b (hOI b ho); omega,fun _ => .inr (.inr (by omega)),.inr (.inr (.inr (by omega)))⟩
    · have := h1 b h
      exact ⟨this.2.1,fun _ => .inr this.2.2,.inr (.inr this.2.2)⟩
  let C2 : Ctx := ⟨P,some l,N,[],w2,fun b => zone C1 Hbx ι2 w1 false b,fun b => zone C1 Hbx ι2 w1 true b,ownedBy Hbx ι2,KB,ιs⟩
  have zc2 : ∀ β b,zone C2 (Hp x') ι3 w3 β b → ¬ O b ∧ (β = false → z0 false b ∨ own0 b ∨ ws.heap.size ≤ b) ∧ (z0 true b ∨ z0 false b ∨ own0 b ∨ ws.heap.size ≤ b) := by
    intro β b hz
    rcases hz.2.2 with ⟨e0,h⟩ | h | h | h
    · have := zc1 true b h
      exact ⟨this.1,(fun e1 => by rw [e0] at e1; cases e1),this.2.2⟩
    · have := zc1 false b h
      exact ⟨this.1,fun _ => this.2.1 rfl,this.2.2⟩
    · have h : w2.heap.size ≤ b := h
      exact ⟨fun ho => by have := hIlt b (hOI b ho); omega,fun _ => .inr (.inr (by omega)),.inr (.inr (.inr (by omega)))⟩
    · rcases o12 b h with h | h
      · exact ⟨fun ho => by have := hIlt b (hOI b ho); omega,fun _ => .inr (.inr (by omega)),.inr (.inr (.inr (by omega)))⟩
      · have := h1 b h
        exact ⟨this.2.1,fun _ => .inr this.2.2,.inr (.inr this.2.2)⟩
  have fin : ∀ (st : LoopState) (pe : Option Code),Kept (fun b => O b ∨ Z false b ∨ Z true b) W (w3.putObj l (.loop (recOf fn tm ps assign body D st pe))) ∧ (∀ b,I b → (w3.putObj l (.loop (recOf fn tm ps assign body D st pe))).heap[b]? = W.heap[b]?) ∧
      RgJG P N KB ιs env tm (Hp x') ws own0 z0 l D (recOf fn tm ps assign body D st pe) O I (w3.putObj l (.loop (recOf fn tm ps assign body D st pe))) := by
    intro st pe
    have kp : ∀ B,Kept B w3 (w3.putObj l (.loop (recOf fn tm ps assign body D st pe))) := fun B => Kept.putObj hl3 rfl
    have sz4 : (w3.putObj l (.loop (recOf fn tm ps assign body D st pe))).heap.size = w3.heap.size := by simp
    have hl4 : (w3.putObj l (.loop (recOf fn tm ps assign body D st pe))).heap[l]? = some (.loop (recOf fn tm ps assign body D st pe)) := World.putObj_heap_same (Array.getElem?_eq_some_iff.1 hl3).1
    have hD4 : (w3.putObj l (.loop (recOf fn tm ps assign body D st pe))).heap[D]? = some (.deferred (some [])) := (World.putObj_heap_other lws.2.2.symm).trans hD3
    have tr4 : Trans own0 ws (w3.putObj l (.loop (recOf fn tm ps assign body D st pe))) := (tr2.comp tr3 fun b hb => by
      rcases o12 b hb with h | h
      · exact .inr (by omega)
      · exact (h1 b h).2.2).putObj hl3 rfl lws.1
    have kW : Kept (fun b => b < W.heap.size ∧ ¬ ownedBy Hs ι b) W (w3.putObj l (.loop (recOf fn tm ps assign body D st pe))) :=
      (((tr1.kept fun b _ hb => hb.2).trans (kp1 _)).trans (tr3.kept fun b _ hb ho => by
        rcases o12 b ho with h | h
        · omega
        · exact hb.2 h)).trans (kp _)
    have ob4 : ∀ b,I b → (w3.putObj l (.loop (recOf fn tm ps assign body D st pe))).heap[b]? = W.heap[b]? := fun b hb => by
      have hbW := hIlt b hb
      have hbl : b ≠ l := fun e => lI.1 (e ▸ hb)
      have no : ¬ ownedBy Hs ι b := fun ho => (h1 b ho).1 hb
      rw [World.putObj_heap_other hbl,tr3.block b (by omega) (fun ho => by
        rcases o12 b ho with h | h
        · omega
        · exact no h),ob2 b hbl,tr1.block b hbW no]
    have r8 := r7.anew none (dfr := []) (tm := a3.tmps) rfl (kp _)
    generalize w3.putObj l (.loop (recOf fn tm ps assign body D st pe)) = w4 at kp sz4 hl4 hD4 tr4 kW ob4 r8 ⊢
    refine ⟨kW.sub fun b hb => ?_,ob4,⟨⟨ι3,_,_,⟨r0.size,rfl,fun d v hl => ?_,r8.core,r8.stab⟩,fun b hb => ?_,fun b hb => ?_,fun b hb => (zc2 _ b hb).2.1 rfl,fun b hb => (zc2 _ b hb).2.2⟩,hl4,hD4,lO,lws,oo,oi,tr4⟩,lI⟩
    · rcases hb with hb | hb | hb
      · exact ⟨hIlt b (hOI b hb),fun ho => (h1 b ho).2.1 hb⟩
      · exact ⟨(hZ _ b hb).1,hZown _ b hb⟩
      · exact ⟨(hZ _ b hb).1,hZown _ b hb⟩
    · refine (r0.env d v hl).mono kW.bsz _ _ (fun β b hz => ?_) (fun β b o u hz hu => kW.cell ⟨hz.1,fun ⟨t,ht,et⟩ => hz.2.1 t ht et⟩ hu) (fun t b hf et => ?_)
      · have no : ¬ ownedBy Hs ι b := fun ⟨t,ht,et⟩ => hz.2.1 t ht et
        have hzW : b < W.heap.size := hz.1
        have z1 : zone C1 Hbx ι2 w1 β b := zone_keep (C := C1) r4.core hz.1 no (by
          rcases zone_at hz with ⟨e0,h⟩ | h
          · exact .inl ⟨e0,.inl h⟩
          · exact .inr (.inl h))
        have no2 : ¬ ownedBy Hbx ι2 b := fun ho => by
          rcases o12 b ho with h | h
          · omega
          · exact no h
        have z2 : zone C2 (Hp x') ι3 w3 β b := zone_keep (C := C2) r7.core (show b < w2.heap.size by omega) no2 (by
          cases β with
          | true => exact .inl ⟨rfl,z1⟩
          | false => exact .inr z1)
        refine ⟨by rw [sz4]; exact z2.1,z2.2.1,?_⟩
        cases β with
        | true => exact .inl ⟨rfl,z2⟩
        | false => exact .inr (.inl z2)
      · have ht := htag d v hl t hf
        have e1 := r0.stab t ht
        have e2 := r7.stab t ht
        show ι3 t = some b
        rw [e2]
        rw [e1] at et
        exact et
    · rcases o23 b hb with h | h
      · exact ⟨fun hi => by have := hIlt b hi; omega,fun ho => by have := hIlt b (hOI b ho); omega,.inr (by omega)⟩
      · rcases o12 b h with h | h
        · exact ⟨fun hi => by have := hIlt b hi; omega,fun ho => by have := hIlt b (hOI b ho); omega,.inr (by omega)⟩
        · exact h1 b h
    · rcases hb with hb | hb
      · exact ⟨by rw [sz4]; exact hb.1,(zc2 _ b hb).1⟩
      · exact ⟨by rw [sz4]; exact hb.1,(zc2 _ b hb).1⟩
  rcases hend with ⟨rfl,hnx⟩ | ⟨he3,hM⟩
  · obtain ⟨k1,k1',k2⟩ := fin .ready none
    exact ⟨_,_,run_endRound none hl3,k1,k1',.inl ⟨rfl,x',hnx,k2⟩⟩
  · rcases he3 with rfl | ⟨id,rfl⟩
    · obtain ⟨k1,k1',k2⟩ := fin .done (some .ret)
      exact ⟨_,_,run_endRound (some .ret) hl3,k1,k1',.inr ⟨rfl,x',.ret,.ret,.inl ⟨rfl,rfl⟩,hM,k2⟩⟩
    · obtain ⟨k1,k1',k2⟩ := fin .done (some (.exit id))
      exact ⟨_,_,run_endRound (some (.exit id)) hl3,k1,k1',.inr ⟨rfl,x',.exit id,.exit id,.inr ⟨id,rfl,rfl⟩,hM,k2⟩⟩
end
def newTB (T : Nat) (l : List (Nat × Blk)) : Bool := l.all fun p => !(Nat.beq p.1 T) && (p.2.lst || p.2.cells.all (AV.free T))
theorem newTB_free {T : Nat} : ∀ {l : List (Nat × Blk)},newTB T l = true → ∀ {t k},look t l = some k → k.lst = false → ∀ c,c ∈ k.cells → AV.free T c = true
  | (t0,k0) :: l,h,t,k,hk,hl,c,hc => by
    rw [newTB,List.all_cons,Bool.and_eq_true] at h
    by_cases e : t = t0
    · subst e
      rw [look_cons_self] at hk
      cases hk
      have h1 := h.1
      simp only [hl,Bool.false_or,Bool.and_eq_true,List.all_eq_true] at h1
      exact h1.2 c hc
    · rw [look_cons_ne e] at hk
      exact newTB_free (l := l) h.2 hk hl c hc
structure BodyOkG (P : Program) (N l : Nat) (KB : List Nat) (env : List (Nat × AV)) {σ R E : Type} (Hp : σ → List (Nat × Blk)) (Bk : E → Blk) (T : Nat) (Hb : E → σ → List (Nat × Blk)) (step : (σ → Option R) → E → σ → Option R) (r : R) (vals : E → List AV) (ps : Array Nat) (assign body : Code)
    (envb : E → σ → List (Nat × AV)) (M : Exit → σ → Prop) : Prop where
  hps : ∀ p,p ∈ ps.toList → p < N
  hvl : ∀ e,(vals e).length = ps.size
  assign : ∀ w0 Zs Zb T0 ι0 x e,AWP ⟨P,some l,N,[],w0,Zs,Zb,T0,KB,ι0⟩ assign (fun e' s' => e' = .normal ∧ VC ⟨P,some l,N,[],w0,Zs,Zb,T0,KB,ι0⟩ s' ⟨envb e x,Hb e x⟩) (puts ⟨env,(T,Bk e) :: Hp x⟩ (ps.toList.zip ((vals e).map (AV.ren fun _ => T))))
  body : ∀ w0 Zs Zb T0 ι0 nx x e,step nx e x = some r → AWP ⟨P,some l,N,[],w0,Zs,Zb,T0,KB,ι0⟩ body (fun e' s' => ∃ x',VC ⟨P,some l,N,[],w0,Zs,Zb,T0,KB,ι0⟩ s' ⟨[],Hp x'⟩ ∧
    ((e' = .normal ∧ nx x' = some r) ∨ ((e' = .ret ∨ ∃ id,e' = .exit id) ∧ M e' x'))) ⟨envb e x,Hb e x⟩
section
variable {P : Program} {N : Nat} {KB : List Nat} {ιs : Tags} {env : List (Nat × AV)} {tm : Array Value} {ws : World} {own0 : Nat → Prop} {z0 : Bool → Nat → Prop} {l D : Nat}
variable {σ R E : Type} {Hp : σ → List (Nat × Blk)} {Bk : E → Blk} {T : Nat} {Hb : E → σ → List (Nat × Blk)} {step : (σ → Option R) → E → σ → Option R} {k : σ → Option R} {r : R} {vals : E → List AV} {ps : Array Nat} {assign body : Code} {envb : E → σ → List (Nat × AV)} {M : Exit → σ → Prop} {fn : FuncId}
theorem RgJG.round {xs : List E} (hz0 : ∀ β b,z0 β b → ¬ own0 b ∧ b < ws.heap.size) (htag : ∀ t v,look t env = some v → ∀ t',AV.free t' v = false → t' ∈ KB)
    (hT : T ∉ KB) (hfr : ∀ x,newTB T (Hp x) = true) (hlst : ∀ e,(Bk e).lst = true) (hvt : ∀ e v,v ∈ vals e → ∀ t,t ∈ v.tags → t = 1)
    (hB : BodyOkG P N l KB env Hp Bk T Hb step r vals ps assign body envb M) :
    RoundOkG P l vals (fun e => [(1,Bk e)]) xs (fun b => z0 false b) (fun b => z0 true b)
      (fun pre O I W => ∃ x rest,xs = pre ++ rest ∧ rangeL step rest k x = some r ∧ RgJG P N KB ιs env tm (Hp x) ws own0 z0 l D (recOf fn tm ps assign body D .ready none) O I W)
      (fun O I W => ∃ x e2 c,((e2 = .ret ∧ c = Code.ret) ∨ ∃ id,e2 = .exit id ∧ c = .exit id) ∧ M e2 x ∧ RgJG P N KB ιs env tm (Hp x) ws own0 z0 l D (recOf fn tm ps assign body D .done (some c)) O I W) := by
  rintro pre e rest0 O I W Z κ us exs ⟨x,rest,exs',hx,hJ,hlI,hDI⟩ hOI hIlt hGO ⟨hG,_⟩ hZ hvs
  have hrest : rest = e :: rest0 := List.append_cancel_left (exs'.symm.trans exs)
  subst hrest
  rw [rangeL] at hx
  obtain ⟨ι,Zs,Zb,r0,h1,h2,h3,h4⟩ := hJ.st
  have gO : ∀ b,κ 1 = some b → O b := fun b hb => hGO b ⟨1,⟨Bk e,look_cons_self _ _ _⟩,hb⟩
  have hcl : ∀ x t kk,look t (Hp x) = some kk → kk.lst = false → ∀ i (hi : i < kk.cells.length),AV.free T kk.cells[i] = true := fun x t kk hk hl i hi => newTB_free (hfr x) hk hl _ (List.getElem_mem hi)
  have i1 : (fun t => if t = T then κ 1 else ι t) T = κ 1 := by simp
  have i2 : ∀ t,t ≠ T → (fun t => if t = T then κ 1 else ι t) t = ι t := fun t ht => by simp [ht]
  generalize (fun t => if t = T then κ 1 else ι t) = ι' at i1 i2
  have hzo : ∀ β b,z0 β b ∨ I b → ¬ ownedBy (Hp x) ι b := fun β b hb ho => by
    rcases hb with hb | hb
    · rcases (h1 b ho).2.2 with h5 | h5
      · exact (hz0 _ _ hb).1 h5
      · have := (hz0 _ _ hb).2; omega
    · exact (h1 b ho).1 hb
  have oS : ∀ b,ownedBy ((T,Bk e) :: Hp x) ι' b → (κ 1 = some b) ∨ ownedBy (Hp x) ι b := by
    rintro b ⟨t,⟨kk,hk⟩,et⟩
    by_cases e1 : t = T
    · subst e1; rw [i1] at et; exact .inl et
    · rw [look_cons_ne e1] at hk
      rw [i2 t e1] at et
      exact .inr ⟨t,⟨kk,hk⟩,et⟩
  have zs1 : ∀ b,(Zs b ∨ Z false b) → z0 false b ∨ own0 b ∨ ws.heap.size ≤ b := fun b hb => by
    rcases hb with hb | hb
    · exact h3 b hb
    · rcases (hZ _ b hb).2.2 with h | ⟨h,_⟩ | h
      · exact .inl h
      · cases h
      · exact .inr (hJ.oi b h)
  have zb1 : ∀ b,(Zb b ∨ Z true b) → z0 true b ∨ z0 false b ∨ own0 b ∨ ws.heap.size ≤ b := fun b hb => by
    rcases hb with hb | hb
    · exact h4 b hb
    · rcases (hZ _ b hb).2.2 with h | ⟨_,h⟩ | h
      · exact .inr (.inl h)
      · exact .inl h
      · exact .inr (.inr (hJ.oi b h))
  have nG : ∀ b,¬ O b → ¬ κ 1 = some b := fun b h e1 => h (gO b e1)
  have zin : ∀ β b,zone ⟨P,none,N,[],W,Zs,Zb,ownedBy (Hp x) ι,KB,ιs⟩ (Hp x) ι W β b → zone ⟨P,none,N,[],W,fun b => Zs b ∨ Z false b,fun b => Zb b ∨ Z true b,ownedBy ((T,Bk e) :: Hp x) ι',KB,ιs⟩ ((T,Bk e) :: Hp x) ι' W β b := by
    intro β b hz
    have hz' := zone_at hz
    have hO : ¬ O b := by
      rcases hz' with ⟨_,h⟩ | h
      · exact (h2 b (.inr h)).2
      · exact (h2 b (.inl h)).2
    refine ⟨hz.1,fun t ht et => ?_,?_⟩
    · rcases oS b ⟨t,ht,et⟩ with h | ⟨t2,h,h'⟩
      · exact nG b hO h
      · exact hz.2.1 t2 h h'
    · rcases hz' with ⟨e1,h⟩ | h
      · exact .inl ⟨e1,.inl h⟩
      · exact .inr (.inl (.inl h))
  have zZ : ∀ β b,Z β b → zone ⟨P,none,N,[],W,fun b => Zs b ∨ Z false b,fun b => Zb b ∨ Z true b,ownedBy ((T,Bk e) :: Hp x) ι',KB,ιs⟩ ((T,Bk e) :: Hp x) ι' W β b := by
    intro β b hz
    obtain ⟨q1,q2,q3⟩ := hZ β b hz
    refine ⟨q1,fun t ht et => ?_,?_⟩
    · rcases oS b ⟨t,ht,et⟩ with h | h
      · exact nG b q2 h
      · rcases q3 with q | ⟨_,q⟩ | q
        · exact hzo _ b (.inl q) h
        · exact hzo _ b (.inl q) h
        · exact hzo false b (.inr q) h
    · cases β with
      | true => exact .inl ⟨rfl,.inr hz⟩
      | false => exact .inr (.inl (.inr hz))
  have r0' : Rel ⟨P,none,N,[],W,fun b => Zs b ∨ Z false b,fun b => Zb b ∨ Z true b,ownedBy ((T,Bk e) :: Hp x) ι',KB,ιs⟩ ⟨env,(T,Bk e) :: Hp x⟩ ι' ⟨tm,[]⟩ W := by
    refine ⟨r0.size,rfl,fun d v hl => (r0.env d v hl).mono (fun _ _ h => h) _ _ zin (fun _ _ _ _ _ h => h) (fun t b hf et => ?_),⟨fun t kk hk => ?_,fun t t' b ht ht' et et' => ?_,fun t b ht et => .inr ⟨t,ht,et⟩,Trans.refl _ _⟩,fun t ht => ?_⟩
    · rw [i2 t (fun e1 => hT (e1 ▸ htag d v hl t hf))]; exact et
    · by_cases e1 : t = T
      · subst e1
        rw [look_cons_self] at hk
        cases hk
        have h0 := hG 1 (Bk e) (look_cons_self _ _ _)
        unfold BlkR at h0 ⊢
        rw [i1]
        cases hx1 : κ 1 with
        | none => simp only [hx1] at h0 ⊢; exact h0
        | some b =>
          simp only [hx1,hlst e,cond_true] at h0 ⊢
          obtain ⟨cur,q1,q2,q3⟩ := h0
          refine ⟨cur,q1,q2,fun i hi => ?_⟩
          obtain ⟨u,hu,hv⟩ := q3 i hi
          exact ⟨u,hu,hv.mono (fun _ _ h => h) _ _ (fun _ b hb => zZ _ _ hb) (fun _ _ _ _ _ h => h) (fun _ _ _ h => h)⟩
      · rw [look_cons_ne e1] at hk
        have h0 := r0.core.blk t kk hk
        unfold BlkR at h0 ⊢
        rw [i2 t e1]
        cases hx1 : ι t with
        | none => simp only [hx1] at h0 ⊢; exact h0
        | some b =>
          simp only [hx1] at h0 ⊢
          obtain ⟨cur,q1,q2,q3⟩ := h0
          refine ⟨cur,q1,q2,fun i hi => ?_⟩
          obtain ⟨u,hu,hv⟩ := q3 i hi
          cases hl : kk.lst with
          | true =>
            rw [hl] at hv
            exact ⟨u,hu,hv.mono (fun _ _ h => h) _ _ (fun _ b hb => zin _ _ hb) (fun _ _ _ _ _ h => h) (fun _ _ _ h => h)⟩
          | false =>
            rw [hl] at hv
            have hvT : ∀ t',AV.free t' kk.cells[i] = false → ∀ b,ι t' = some b → ι' t' = some b := fun t' hf b et => by
              by_cases e2 : t' = T
              · subst e2
                exact absurd (hcl x t kk hk hl i hi) (by rw [hf]; simp)
              · rw [i2 t' e2]; exact et
            exact ⟨u,hu,hv.mono (fun _ _ h => h) _ _ zin (fun _ _ _ _ _ h => h) (fun t' b hf et => hvT t' hf b et)⟩
    · by_cases e1 : t = T
      · by_cases e2 : t' = T
        · rw [e1,e2]
        · subst e1
          rw [i1] at et
          rw [i2 t' e2] at et'
          obtain ⟨kk,hk⟩ := ht'
          rw [look_cons_ne e2] at hk
          exact absurd (gO b et) (h1 b ⟨t',⟨kk,hk⟩,et'⟩).2.1
      · by_cases e2 : t' = T
        · subst e2
          rw [i1] at et'
          rw [i2 t e1] at et
          obtain ⟨kk,hk⟩ := ht
          rw [look_cons_ne e1] at hk
          exact absurd (gO b et') (h1 b ⟨t,⟨kk,hk⟩,et⟩).2.1
        · rw [i2 t e1] at et
          rw [i2 t' e2] at et'
          obtain ⟨kk,hk⟩ := ht
          obtain ⟨kk',hk'⟩ := ht'
          rw [look_cons_ne e1] at hk
          rw [look_cons_ne e2] at hk'
          exact r0.core.inj t t' b ⟨kk,hk⟩ ⟨kk',hk'⟩ et et'
    · rw [i2 t (fun e1 => hT (e1 ▸ ht))]; exact r0.stab t ht
  have eG : ∀ b,ownedBy [(1,Bk e)] κ b ↔ κ 1 = some b := fun b => by
    constructor
    · rintro ⟨t,⟨kk,hk⟩,et⟩
      by_cases e1 : t = 1
      · subst e1; exact et
      · rw [look_cons_ne e1] at hk; cases hk
    · exact fun h => ⟨1,⟨Bk e,look_cons_self _ _ _⟩,h⟩
  have hvs' : VRs W Z ι' ((vals e).map (AV.ren fun _ => T)) us := by
    refine ⟨by rw [hvs.1,List.length_map],fun i hi => ?_⟩
    rw [List.length_map] at hi
    obtain ⟨u,hu,hv⟩ := hvs.2 i hi
    refine ⟨u,hu,?_⟩
    rw [List.getElem_map]
    exact hv.renamed fun t b ht et => by
      have := hvt e _ (List.getElem_mem hi) t ht
      subst this
      show ι' T = some b
      rw [i1]; exact et
  have key := RgJG.round1 (P := P) (N := N) (KB := KB) (ιs := ιs) (env := env) (tm := tm) (ws := ws) (own0 := own0) (z0 := z0) (l := l) (D := D) (Hp := Hp) (ps := ps) (assign := assign) (body := body) (M := M) (fn := fn)
    (Hs := (T,Bk e) :: Hp x) (Hbx := Hb e x) (envbx := envb e x) (vs := (vals e).map (AV.ren fun _ => T)) (us := us) (O := fun b => O b ∧ ¬ ownedBy [(1,Bk e)] κ b) (I := fun b => I b ∧ ¬ ownedBy [(1,Bk e)] κ b) (Z := Z) (G := fun x' => rangeL step rest0 k x' = some r)
    hz0 htag r0' (fun b hb => ?_) (fun b hb => ?_) zs1 zb1 hJ.rc hJ.mark ⟨fun h => hJ.lO.1 h.1,fun h => hJ.lO.2 h.1⟩ ⟨fun h => hlI h.1,fun h => hDI h.1⟩ hJ.lws (fun b hb => hJ.oo b hb.1) (fun b hb => hJ.oi b hb.1) hJ.tr hB.hps (by rw [List.length_map,hB.hvl])
    (fun w0 Zs Zb T0 ι0 => hB.assign w0 Zs Zb T0 ι0 x e) (fun w0 Zs Zb T0 ι0 => hB.body w0 Zs Zb T0 ι0 _ x e hx) (fun b hb => ⟨hOI b hb.1,hb.2⟩) (fun b hb => hIlt b hb.1) (fun β b hb => ?_) hvs'
  · obtain ⟨fn',tmps,assign',body',hrun,hround⟩ := key
    refine ⟨fn',tmps,assign',body',hrun,RoundIn.mono hround ?_⟩
    rintro e3 W3 ⟨q1,q2,q3⟩
    refine ⟨q1,fun b hb hn => q2 b ⟨hb,hn⟩,?_⟩
    rcases q3 with ⟨rfl,x',hG',hJ'⟩ | ⟨rfl,x',e2,c,hc,hM,hJ'⟩
    · exact .inl ⟨rfl,x',rest0,by rw [exs]; simp,hG',hJ'⟩
    · exact .inr ⟨rfl,x',e2,c,hc,hM,hJ'⟩
  · rcases oS b hb with h | h
    · exact ⟨fun hi => hi.2 ((eG b).2 h),fun ho => ho.2 ((eG b).2 h),hJ.oo b (gO b h)⟩
    · obtain ⟨q1,q2,q3⟩ := h1 b h
      exact ⟨fun hi => q1 hi.1,fun ho => q2 ho.1,q3⟩
  · rcases hb with (hb | hb) | hb | hb
    · exact ⟨(h2 b (.inl hb)).1,fun ho => (h2 b (.inl hb)).2 ho.1⟩
    · exact ⟨(hZ _ b hb).1,fun ho => (hZ _ b hb).2.1 ho.1⟩
    · exact ⟨(h2 b (.inr hb)).1,fun ho => (h2 b (.inr hb)).2 ho.1⟩
    · exact ⟨(hZ _ b hb).1,fun ho => (hZ _ b hb).2.1 ho.1⟩
  · obtain ⟨q1,q2,q3⟩ := hZ β b hb
    refine ⟨q1,fun ho => q2 ho.1,?_⟩
    rcases q3 with q | q | q
    · exact .inl q
    · exact .inr (.inl q)
    · exact .inr (.inr ⟨q,fun h => nG b q2 ((eG b).1 h)⟩)
end
section
variable {P : Program} {N : Nat} {ι0 : Tags} {w00 : World} {Zs0 Zb0 T00 : Nat → Prop}
theorem AWPF.rangeG2 {σx R E : Type} {r : R} {Q : Exit → Option R → St → Prop} {s : St} {g : Operand} {ps : Array Nat} {assign body : Code} {f : FuncId} {avs cs : List AV} {H : List (Nat × Blk)} {vals : E → List AV} {xs : List E} {σ : Nat → Nat}
    {Hp : σx → List (Nat × Blk)} {Hb : E → σx → List (Nat × Blk)} {step : (σx → Option R) → E → σx → Option R} {k : σx → Option R} {env : List (Nat × AV)} {x0 : σx} {KB : List Nat} {Bk : E → Blk} {T : Nat} {envb : E → σx → List (Nat × AV)} {M : Exit → σx → Prop}
    (hS : ItSpecG P f avs H vals (fun e => [(1,Bk e)]) xs) (hg : ∀ d,Ev ((rgFam P N ι0 r w00 Zs0 Zb0 T00).cx d) s g (.clo (.func f) [] cs)) (hcs : ∀ d,CvL ((rgFam P N ι0 r w00 Zs0 Zb0 T00).cx d) s σ H false cs avs)
    (hH : ∀ t k,look t H = some k → look (σ t) s.heap = some (renB σ k)) (hinj : ∀ a b,a ∈ dom H → b ∈ dom H → σ a = σ b → a = b)
    (hHp : ∀ t kk,look t (Hp x0) = some kk → look t s.heap = some kk) (hdis : ∀ t,has t (Hp x0) → t ∉ (dom H).map σ)
    (henv : ∀ t v,look t env = some v → look t s.env = some v) (htag : ∀ t v,look t env = some v → ∀ t',AV.free t' v = false → t' ∈ KB)
    (hx : rangeL step xs k x0 = some r) (hT : T ∉ KB) (hfr : ∀ x,newTB T (Hp x) = true) (hlst : ∀ e,(Bk e).lst = true) (hvt : ∀ e v,v ∈ vals e → ∀ t,t ∈ v.tags → t = 1) (hB : ∀ l,BodyOkG P N l KB env Hp Bk T Hb step r vals ps assign body envb M)
    (hk : ∀ x,k x = some r → Q .normal (some r) ⟨env,Hp x⟩) (hstop : ∀ e x,M e x → Q e (some r) ⟨env,Hp x⟩) :
    AWPF (rgFam P N ι0 r w00 Zs0 Zb0 T00) (.rangeFunc g ps assign body) Q (some r) s := by
  intro d ι a w hR rel
  obtain ⟨hable,hspec⟩ := hS
  have hHas : ∀ t,has t H → has (σ t) s.heap := fun t ⟨k,hk⟩ => ⟨_,hH t k hk⟩
  have hv := hg d ι a w rel
  generalize hge : a.eval g = ge at hv
  cases hv with
  | clo _ _ _ _ _ u1 v1 hu hl q1 q2 =>
  have hu1 : u1 = [] := List.eq_nil_of_length_eq_zero (by simpa using hu)
  subst hu1
  have hvrs := (hcs d).vrs hHas rel [] hl q2
  refine wpIn_rangeFunc fun fn _ => ?_
  obtain ⟨W1,hW1⟩ : ∃ W1,(w.alloc (.deferred (some []))).alloc (.loop (recOf fn a.tmps ps assign body w.heap.size .ready none)) = W1 := ⟨_,rfl⟩
  have hL1 : W1.heap[w.heap.size + 1]? = some (.loop (recOf fn a.tmps ps assign body w.heap.size .ready none)) := by
    rw [← hW1]; have := World.alloc_heap_new (w.alloc (.deferred (some []))) (.loop (recOf fn a.tmps ps assign body w.heap.size .ready none)); rwa [World.size_alloc] at this
  have hD1 : W1.heap[w.heap.size]? = some (.deferred (some [])) := by
    rw [← hW1]; exact (RowKit.Below.heap_alloc _ _ _ (by simp)).trans (World.alloc_heap_new w _)
  have kp1 : ∀ B,Kept B w W1 := fun B => by rw [← hW1]; exact (Kept.alloc w _).trans (Kept.alloc _ _)
  have tr1 : Trans (fun b => ownedBy s.heap ι b) w W1 := by rw [← hW1]; exact ((Trans.refl _ w).alloc _).alloc _
  have sz1 : w.heap.size ≤ W1.heap.size := tr1.size
  have hen : (Instr.enterLoop fn a.tmps ps assign body none).run P w = .ok (w.heap.size + 1,[markOf w.heap.size]) W1 := by
    rw [← hW1]; exact run_enterLoop_outer _ _ _ _ _
  have hcore := callee_core rel hH hinj (kp1 _) none []
  have howlt : ∀ b,ownedBy s.heap ι b → b < w.heap.size := fun b hb => rel.core.lt hb
  have hOs : ∀ b,ownedBy H (fun t => ι (σ t)) b → ownedBy s.heap ι b := fun b ⟨t,ht,e⟩ => ⟨σ t,hHas t ht,e⟩
  have hvr1 : VRs W1 (zone ⟨P,none,N,[],W1,fun b => zone ((rgFam P N ι0 r w00 Zs0 Zb0 T00).cx d) s.heap ι w false b,fun b => zone ((rgFam P N ι0 r w00 Zs0 Zb0 T00).cx d) s.heap ι w true b,ownedBy H (fun t => ι (σ t)),[],fun t => ι (σ t)⟩ H (fun t => ι (σ t)) W1) (fun t => ι (σ t)) avs v1 := by
    refine ⟨hvrs.1,fun i hi => ?_⟩
    obtain ⟨u,hu,hvv⟩ := hvrs.2 i hi
    refine ⟨u,hu,hvv.mono (kp1 (fun _ => True)).bsz _ _ (fun β b hz => ?_) (fun β b o u hz hu => (kp1 (fun _ => True)).cell trivial hu) (fun _ _ _ h => h)⟩
    refine ⟨Nat.lt_of_lt_of_le hz.1 sz1,hz.2.1,?_⟩
    rcases hz.2.2 with ⟨e0,h | ⟨h,_⟩⟩ | h | h | h
    · exact .inl ⟨e0,h⟩
    · cases h
    · exact .inr (.inl h)
    · exact absurd hz.1 (Nat.not_lt.2 h)
    · exact .inr (.inr (.inr h))
  have rP := rel.part none (dfr := []) (tm := a.tmps) rfl henv hHp (KB := KB) (ι0 := ι) (fun _ _ => rfl) (kp1 _)
  have hz0 : ∀ β b,zone ((rgFam P N ι0 r w00 Zs0 Zb0 T00).cx d) s.heap ι w β b → ¬ ownedBy s.heap ι b ∧ b < w.heap.size := fun β b hz => ⟨fun ⟨t,ht,e⟩ => hz.2.1 t ht e,hz.1⟩
  have hround := RgJG.round (P := P) (N := N) (KB := KB) (ιs := ι) (env := env) (tm := a.tmps) (ws := w) (own0 := ownedBy s.heap ι) (z0 := zone ((rgFam P N ι0 r w00 Zs0 Zb0 T00).cx d) s.heap ι w) (l := w.heap.size + 1) (D := w.heap.size)
    (Hp := Hp) (Bk := Bk) (T := T) (Hb := Hb) (step := step) (k := k) (r := r) (vals := vals) (ps := ps) (assign := assign) (body := body) (envb := envb) (M := M) (fn := fn) (xs := xs) hz0 htag hT hfr hlst hvt (hB _)
  have hJ0' : RgJ P N KB ι env a.tmps (Hp x0) w (ownedBy s.heap ι) (zone ((rgFam P N ι0 r w00 Zs0 Zb0 T00).cx d) s.heap ι w) (w.heap.size + 1) w.heap.size (recOf fn a.tmps ps assign body w.heap.size .ready none) (ownedBy H (fun t => ι (σ t))) (ownedBy H (fun t => ι (σ t))) W1 := by
    have hdj : ∀ b,ownedBy (Hp x0) ι b → ¬ ownedBy H (fun t => ι (σ t)) b := by
      rintro b ⟨t,⟨kk,ht⟩,e⟩ ⟨t',ht',e'⟩
      have := rel.core.inj t (σ t') b ⟨kk,hHp t kk ht⟩ (hHas t' ht') e e'
      exact hdis t ⟨kk,ht⟩ (this ▸ List.mem_map_of_mem (has_dom.1 ht'))
    refine ⟨⟨ι,_,_,rP,fun b hb => ⟨hdj b hb,hdj b hb,.inl ?_⟩,fun b hb => ?_,fun b hb => .inl hb,fun b hb => .inl hb⟩,hL1,hD1,⟨fun h => ?_,fun h => ?_⟩,⟨by omega,Nat.le_refl _,by omega⟩,fun b hb => .inl (hOs b hb),fun b hb => .inl (hOs b hb),tr1⟩
    · obtain ⟨t,⟨kk,ht⟩,e⟩ := hb
      exact ⟨t,⟨kk,hHp t kk ht⟩,e⟩
    · rcases hb with hb | hb
      · exact ⟨Nat.lt_of_lt_of_le hb.1 sz1,fun ho => (hz0 _ b hb).1 (hOs b ho)⟩
      · exact ⟨Nat.lt_of_lt_of_le hb.1 sz1,fun ho => (hz0 _ b hb).1 (hOs b ho)⟩
    · have := howlt _ (hOs _ h); omega
    · have := howlt _ (hOs _ h); omega
  have hJ0 := (show RgJG P N KB ι env a.tmps (Hp x0) w (ownedBy s.heap ι) (zone ((rgFam P N ι0 r w00 Zs0 Zb0 T00).cx d) s.heap ι w) (w.heap.size + 1) w.heap.size (recOf fn a.tmps ps assign body w.heap.size .ready none) (ownedBy H (fun t => ι (σ t))) (ownedBy H (fun t => ι (σ t))) W1 from
    ⟨hJ0',fun h => by have := howlt _ (hOs _ h); omega,fun h => by have := howlt _ (hOs _ h); omega⟩)
  have hcall := hspec _ _ (fun t => ι (σ t)) W1 v1 N [] none hcore hvr1 (w.heap.size + 1) _ _ (fun pre => ?_) ?_ hround ⟨x0,xs,rfl,hx,hJ0⟩
  · refine ⟨w.heap.size + 1,[markOf w.heap.size],W1,{ target := .fn (.func f) v1.toArray,args := #[.func (.yield (w.heap.size + 1)) #[] #[]] },W1,f,#[.func (.yield (w.heap.size + 1)) #[] #[]] ++ v1.toArray,W1,hen,?_,fun _ _ => trivial,?_,(fun h => by cases h),?_⟩
    · simp only [resolve,hge]
      simp [go_sem]
    · simp only [invoke]
      exact run_callFunc hable
    · have earr : (#[Value.func (.yield (w.heap.size + 1)) #[] #[]] ++ v1.toArray : Array Value) = (Value.func (.yield (w.heap.size + 1)) #[] #[] :: v1).toArray := by simp
      rw [earr]
      refine CallsIn.mono hcall ?_
      rintro e W2 ⟨⟨v,rfl⟩,O',I',hend⟩
      have own_l : ∀ {C : Ctx} {H : List (Nat × Blk)} {ι : Tags} {w : World} {b : Nat} {o : Obj},Core C H ι w → w.heap[b]? = some o → o.isCells = false → ¬ ownedBy H ι b := by
        intro C H ι w b o hc h ho hb
        obtain ⟨c,ty,n,h'⟩ := owned_lt hc hb
        rw [h] at h'
        cases h'
        simp [Obj.isCells] at ho
      -- the caller's state behind the loop
      have fin : ∀ (x : σx) (st : LoopState) (pe : Option Code),RgJG P N KB ι env a.tmps (Hp x) w (ownedBy s.heap ι) (zone ((rgFam P N ι0 r w00 Zs0 Zb0 T00).cx d) s.heap ι w) (w.heap.size + 1) w.heap.size (recOf fn a.tmps ps assign body w.heap.size st pe) O' I' W2 →
          ∀ o,∃ d' ι',(rgFam P N ι0 r w00 Zs0 Zb0 T00).H (some r) d' ∧ Rel ((rgFam P N ι0 r w00 Zs0 Zb0 T00).cx d') ⟨env,Hp x⟩ ι' { a with defers := [markOf w.heap.size] ++ a.defers } (W2.putObj (w.heap.size + 1) (.loop o)) := by
        intro x st pe hJg o
        have hJ := hJg.1
        obtain ⟨ι1,Zs,Zb,r1,h1,h2,h3,h4⟩ := hJ.st
        have kp : ∀ B,Kept B W2 (W2.putObj (w.heap.size + 1) (.loop o)) := fun B => Kept.putObj hJ.rc rfl
        have r2 := r1.part none (dfr := (w.heap.size :: d.ms).map markOf) (tm := a.tmps) rfl (fun _ _ h => h) (fun _ _ h => h) (KB := []) (ι0 := ι0) (fun _ h => by cases h) (kp _)
        have zs_of : ∀ b,ownedBy s.heap ι b → T00 b ∨ w00.heap.size ≤ b := fun b ⟨t,ht,e⟩ => by
          rcases rel.core.own t b ht e with h | h
          · have h : d.w0.heap.size ≤ b := h
            have := hR.tr.size
            exact .inr (by omega)
          · exact hR.own b h
        have trw : Trans T00 w00 w := hR.tr.comp rel.core.tr fun b hb => hR.own b hb
        have hw : w00.heap.size ≤ w.heap.size := trw.size
        have tr2 : Trans T00 w00 W2 := trw.comp hJ.tr fun b hb => zs_of b hb
        have zF : ∀ b,zone ((rgFam P N ι0 r w00 Zs0 Zb0 T00).cx d) s.heap ι w false b → Zs0 b ∨ T00 b ∨ w00.heap.size ≤ b := fun b hz => by
          rcases hz.2.2 with ⟨e0,_⟩ | h | h | h
          · cases e0
          · exact hR.zs b h
          · have h : d.w0.heap.size ≤ b := h
            have := hR.tr.size
            exact .inr (.inr (by omega))
          · exact .inr (hR.own b h)
        have zT : ∀ b,zone ((rgFam P N ι0 r w00 Zs0 Zb0 T00).cx d) s.heap ι w true b → Zb0 b ∨ Zs0 b ∨ T00 b ∨ w00.heap.size ≤ b := fun b hz => by
          rcases hz.2.2 with ⟨_,h⟩ | h | h | h
          · exact hR.zb b h
          · exact .inr (hR.zs b h)
          · have h : d.w0.heap.size ≤ b := h
            have := hR.tr.size
            exact .inr (.inr (.inr (by omega)))
          · exact .inr (.inr (hR.own b h))
        have zs3 : ∀ b,Zs b → Zs0 b ∨ T00 b ∨ w00.heap.size ≤ b := fun b hb => by
          rcases h3 b hb with h | h | h
          · exact zF b h
          · exact .inr (zs_of b h)
          · exact .inr (.inr (by omega))
        have zb3 : ∀ b,Zb b → Zb0 b ∨ Zs0 b ∨ T00 b ∨ w00.heap.size ≤ b := fun b hb => by
          rcases h4 b hb with h | h | h | h
          · exact zT b h
          · exact .inr (zF b h)
          · exact .inr (.inr (zs_of b h))
          · exact .inr (.inr (.inr (by omega)))
        have hold : ∀ B,B ∈ d.ms → w.heap[B]? = some (.deferred (some [])) ∧ w00.heap.size ≤ B := fun B hB => by
          obtain ⟨m1,m2,m3⟩ := hR.marks B hB
          have tr := rel.core.tr
          have : w.heap[B]? = d.w0.heap[B]? := tr.block B (Array.getElem?_eq_some_iff.1 m1).1 m2
          exact ⟨this.trans m1,m3⟩
        have hmk : ∀ B,B ∈ w.heap.size :: d.ms → (W2.putObj (w.heap.size + 1) (.loop o)).heap[B]? = some (.deferred (some [])) ∧ w00.heap.size ≤ B := fun B hB => by
          rcases List.mem_cons.1 hB with rfl | hB
          · exact ⟨(World.putObj_heap_other (by omega)).trans hJ.mark,hw⟩
          · obtain ⟨m1,m2⟩ := hold B hB
            have hlt := (Array.getElem?_eq_some_iff.1 m1).1
            refine ⟨(World.putObj_heap_other (by omega)).trans ?_,m2⟩
            rw [hJ.tr.block B hlt (own_l rel.core m1 rfl)]; exact m1
        refine ⟨⟨w.heap.size :: d.ms,W2.putObj (w.heap.size + 1) (.loop o),fun b => zone ⟨P,none,N,[],W2,Zs,Zb,ownedBy (Hp x) ι1,KB,ι⟩ (Hp x) ι1 W2 false b,fun b => zone ⟨P,none,N,[],W2,Zs,Zb,ownedBy (Hp x) ι1,KB,ι⟩ (Hp x) ι1 W2 true b,ownedBy (Hp x) ι1⟩,ι1,⟨rfl,tr2.putObj hJ.rc rfl (by omega),fun b hb => ?_,fun b hb => ?_,fun b hb => ?_,fun B hB => ⟨(hmk B hB).1,own_l r2.core (hmk B hB).1 rfl,(hmk B hB).2⟩,List.nodup_cons.2 ⟨fun hm => ?_,hR.nodup⟩⟩,?_⟩
        · rcases (h1 b hb).2.2 with h | h
          · exact zs_of b h
          · exact .inr (by omega)
        · rcases zone_at hb with ⟨e0,_⟩ | h
          · cases e0
          · exact zs3 b h
        · rcases zone_at hb with ⟨_,h⟩ | h
          · exact zb3 b h
          · exact .inr (zs3 b h)
        · have := (Array.getElem?_eq_some_iff.1 (hold _ hm).1).1
          omega
        · have ed : a.defers = d.ms.map markOf := rel.dfr
          have ea : ({ a with defers := [markOf w.heap.size] ++ a.defers } : Act) = ⟨a.tmps,(w.heap.size :: d.ms).map markOf⟩ := by
            rw [ed]; rfl
          rw [ea]
          exact r2
      rcases hend with ⟨x,rest,e1,e2,hJ⟩ | ⟨x,e3,c,hc,hM,hJ⟩
      · have : rest = [] := List.append_cancel_left (by rw [List.append_nil]; exact e1.symm)
        subst this
        rw [rangeL] at e2
        obtain ⟨d',ι',g1,g2⟩ := fin x _ _ hJ { recOf fn a.tmps ps assign body w.heap.size .ready none with state := .exhausted }
        refine ⟨none,_,run_endLoop hJ.1.rc (by simp [recOf]),?_⟩
        exact ⟨some r,⟨env,Hp x⟩,d',ι',g1,g2,hk x e2⟩
      · obtain ⟨d',ι',g1,g2⟩ := fin x _ _ hJ { recOf fn a.tmps ps assign body w.heap.size .done (some c) with state := .exhausted }
        refine ⟨some c,_,run_endLoop hJ.1.rc (by simp [recOf]),?_⟩
        rcases hc with ⟨rfl,rfl⟩ | ⟨id,rfl,rfl⟩
        · exact wpIn_ret ⟨some r,⟨env,Hp x⟩,d',ι',g1,g2,hstop _ x hM⟩
        · exact wpIn_exit ⟨some r,⟨env,Hp x⟩,d',ι',g1,g2,hstop _ x hM⟩
  · rintro O O' I I' W W' ⟨x,rest,e1,e2,hJ⟩ tr hO hI
    exact ⟨x,rest,e1,e2,RgJG.abide _ _ _ _ _ _ hJ tr hO hI⟩
  · rintro O O' I I' W W' ⟨x,e2,c,h1,h2,hJ⟩ tr hO hI
    exact ⟨x,e2,c,h1,h2,RgJG.abide _ _ _ _ _ _ hJ tr hO hI⟩
end
end Go.AB
namespace Go.AB
open Go
inductive EvW (C : Ctx) (s : St) : List Operand → List AV → Prop
  | nil : EvW C s [] []
  | cons {x : Operand} {v : AV} {xs : List Operand} {vs : List AV} (h : Ev C s x v) (t : EvW C s xs vs) : EvW C s (x :: xs) (v :: vs)
theorem EvW.vrs {C : Ctx} {s : St} {xs : List Operand} {vs : List AV} (h : EvW C s xs vs) {ι : Tags} {a : Act} {w : World} (r : Rel C s ι a w) : VRs w (zone C s.heap ι w) ι vs (xs.map a.eval) := by
  induction h with
  | nil => exact ⟨rfl,fun i hi => absurd hi (by simp)⟩
  | cons h t ih =>
    refine ⟨by simp [ih.1],fun i hi => ?_⟩
    cases i with
    | zero => exact ⟨_,rfl,h ι a w r⟩
    | succ i =>
      obtain ⟨u,h1,h2⟩ := ih.2 i (by simpa using hi)
      exact ⟨u,by simpa using h1,h2⟩
theorem Trans.wide {T T' : Nat → Prop} {w w' : World} (h : Trans T w w') (hT : ∀ b,T b → T' b) : Trans T' w w' :=
  ⟨h.os,h.tape,h.output,h.size,fun b hb hn => h.block b hb fun ht => hn (hT b ht),h.bsz⟩
theorem Rel.part2 {C : Ctx} {s : St} {ι : Tags} {a : Act} {w w' : World} (r : Rel C s ι a w) (ro : Option Nat) {dfr : List Deferred} {tm : Array Value} (ht : tm = a.tmps) {env : List (Nat × AV)} {Hx : List (Nat × Blk)}
    (henv : ∀ t v,look t env = some v → look t s.env = some v) (hHx : ∀ t kk,look t Hx = some kk → look t s.heap = some kk) {KB : List Nat} {ι0 : Tags} (hst : ∀ t,t ∈ KB → ι t = ι0 t)
    (k : Kept (fun b => ownedBy Hx ι b ∨ zone C s.heap ι w false b ∨ zone C s.heap ι w true b) w w') :
    Rel ⟨C.P,ro,C.N,dfr,w',fun b => zone C s.heap ι w false b,fun b => zone C s.heap ι w true b,ownedBy Hx ι,KB,ι0⟩ ⟨env,Hx⟩ ι ⟨tm,dfr⟩ w' := by
  subst ht
  have hhas : ∀ t,has t Hx → has t s.heap := fun t ⟨kk,hk⟩ => ⟨kk,hHx t kk hk⟩
  have hZ : ∀ β b,zone C s.heap ι w β b → zone ⟨C.P,ro,C.N,dfr,w',fun b => zone C s.heap ι w false b,fun b => zone C s.heap ι w true b,ownedBy Hx ι,KB,ι0⟩ Hx ι w' β b := by
    intro β b hz
    refine ⟨Nat.lt_of_lt_of_le hz.1 k.size,fun t ht => hz.2.1 t (hhas t ht),?_⟩
    cases β with
    | true => exact .inl ⟨rfl,hz⟩
    | false => exact .inr (.inl hz)
  have hcell : ∀ β b o u,zone C s.heap ι w β b → w.cell? ⟨b,o,none⟩ = some u → w'.cell? ⟨b,o,none⟩ = some u := by
    intro β b o u hz hu
    exact k.cell (by cases β with | true => exact .inr (.inr hz) | false => exact .inr (.inl hz)) hu
  refine ⟨r.size,rfl,fun d v hl => (r.env d v (henv d v hl)).mono k.bsz _ _ hZ hcell (fun _ _ _ h => h),⟨fun t kk hk => ?_,fun t t' b h1 h2 => r.core.inj t t' b (hhas t h1) (hhas t' h2),fun t b ht e => .inr ⟨t,ht,e⟩,Trans.refl _ _⟩,hst⟩
  have h0 := r.core.blk t kk (hHx t kk hk)
  unfold BlkR at h0 ⊢
  cases hx : ι t with
  | none => simp only [hx] at h0 ⊢; exact h0
  | some b =>
    simp only [hx] at h0 ⊢
    obtain ⟨cur,q1,q2,q3⟩ := h0
    refine ⟨cur,?_,q2,fun i hi => ?_⟩
    · rw [k.block b _ _ _ (.inl ⟨t,⟨kk,hk⟩,hx⟩) q1]; exact q1
    · obtain ⟨u,hu,hv⟩ := q3 i hi
      refine ⟨u,hu,hv.mono k.bsz _ _ ?_ ?_ (fun _ _ _ h => h)⟩
      · cases kk.lst with
        | true => exact fun _ b hb => hZ _ _ hb
        | false => exact hZ
      · cases kk.lst with
        | true => exact fun _ b o u hb => hcell _ b o u hb
        | false => exact hcell
structure IbC where
  W0 : World
  Oi : Nat → Prop
  Ii : Nat → Prop
  X : Nat → Prop
  Zi : Zone
  Ze : Zone
structure IbOk (c : IbC) : Prop where
  oi : ∀ b,c.Oi b → c.Ii b
  ilt : ∀ b,c.Ii b ∨ c.X b → b < c.W0.heap.size
  zlt : ∀ β b,c.Zi β b → b < c.W0.heap.size ∧ ¬ c.Oi b ∧ ¬ c.X b
  ze : ∀ β b,c.Ze β b → c.Zi β b
structure IbH {E : Type} (xs : List E) (Zs Zb : Nat → Prop) (J : List E → (Nat → Prop) → (Nat → Prop) → World → Prop) (Jx : (Nat → Prop) → (Nat → Prop) → World → Prop) (c : IbC) (g : Option (List E)) (d : ItD) : Prop where
  past : match g with
    | some rest => ∃ pre,xs = pre ++ rest ∧ J pre (fun b => d.T0 b ∨ c.Oi b ∨ c.X b) d.I d.w0
    | none => Jx (fun b => d.T0 b ∨ c.Oi b ∨ c.X b) d.I d.w0
  own : ∀ b,d.T0 b ∨ c.Ii b ∨ c.X b → d.I b
  lt : ∀ b,d.I b → b < d.w0.heap.size
  zs : ∀ b,d.Zs b → ¬ c.Oi b ∧ ¬ c.X b ∧ (Zs b ∨ d.I b)
  zb : ∀ b,d.Zb b → ¬ c.Oi b ∧ ¬ c.X b ∧ (Zb b ∨ Zs b ∨ d.I b)
  zi : ∀ β b,c.Zi β b → Zs b ∨ (β = true ∧ Zb b) ∨ d.I b
  dis : ∀ b,d.T0 b → ¬ c.Ii b ∧ ¬ c.X b ∧ ∀ β,¬ c.Zi β b
  ezs : ∀ b,c.Ze false b → d.Zs b
  ezb : ∀ b,c.Ze true b → d.Zb b ∨ d.Zs b
  keptI : ∀ b,c.Ii b ∨ c.X b → d.w0.heap[b]? = c.W0.heap[b]?
  keptZ : Kept (fun b => c.Zi false b ∨ c.Zi true b) c.W0 d.w0
def ibFam {E : Type} (P : Program) (l N : Nat) (KB : List Nat) (ι0 : Tags) (xs : List E) (Zs Zb : Nat → Prop) (J : List E → (Nat → Prop) → (Nat → Prop) → World → Prop) (Jx : (Nat → Prop) → (Nat → Prop) → World → Prop) (c : IbC) : Fam (Option (List E)) where
  D := ItD
  P := P
  r := some l
  cx d := ⟨P,some l,N,[],d.w0,d.Zs,d.Zb,d.T0,KB,ι0⟩
  H g d := IbH xs Zs Zb J Jx c g d
  hP _ := rfl
  hr _ := rfl
section
variable {E : Type} {P : Program} {l N : Nat} {KB : List Nat} {ι0 : Tags} {xs : List E} {Zs Zb : Nat → Prop} {J : List E → (Nat → Prop) → (Nat → Prop) → World → Prop} {Jx : (Nat → Prop) → (Nat → Prop) → World → Prop} {c : IbC}
theorem IbH.now {g : Option (List E)} {d : ItD} (h : IbH xs Zs Zb J Jx c g d) (hc : IbOk c) (hJ : ∀ pre,Abide (J pre)) (hJx : Abide Jx) {s : St} {ι : Tags} {a : Act} {w : World} (r : Rel ((ibFam P l N KB ι0 xs Zs Zb J Jx c).cx d) s ι a w) :
    IbH xs Zs Zb J Jx c g ⟨w,fun b => zone ((ibFam P l N KB ι0 xs Zs Zb J Jx c).cx d) s.heap ι w false b,fun b => zone ((ibFam P l N KB ι0 xs Zs Zb J Jx c).cx d) s.heap ι w true b,ownedBy s.heap ι,fun b => d.I b ∨ (d.w0.heap.size ≤ b ∧ b < w.heap.size)⟩ := by
  have hO : ∀ b,ownedBy s.heap ι b → d.T0 b ∨ d.w0.heap.size ≤ b := by
    rintro b ⟨t,ht,e⟩
    exact (r.core.own t b ht e).symm
  have hOlt : ∀ b,ownedBy s.heap ι b → b < w.heap.size := fun b hb => r.core.lt hb
  have tr : Trans d.T0 d.w0 w := r.core.tr
  have sz : c.W0.heap.size ≤ d.w0.heap.size := h.keptZ.size
  have hOX : ∀ b,ownedBy s.heap ι b ∨ c.Oi b ∨ c.X b → (d.T0 b ∨ c.Oi b ∨ c.X b) ∨ d.w0.heap.size ≤ b := fun b hb => by
    rcases hb with hb | hb
    · rcases hO b hb with h1 | h1
      · exact .inl (.inl h1)
      · exact .inr h1
    · exact .inl (.inr hb)
  have zf : ∀ b,zone ((ibFam P l N KB ι0 xs Zs Zb J Jx c).cx d) s.heap ι w false b → ¬ c.Oi b ∧ ¬ c.X b ∧ (Zs b ∨ d.I b ∨ (d.w0.heap.size ≤ b ∧ b < w.heap.size)) := by
    intro b hb
    obtain ⟨z1,_,z3⟩ := hb
    rcases z3 with ⟨h1,_⟩ | h1 | h1 | h1
    · cases h1
    · obtain ⟨q1,q2,q3⟩ := h.zs b h1
      refine ⟨q1,q2,?_⟩
      rcases q3 with q | q
      · exact .inl q
      · exact .inr (.inl q)
    · have h1 : d.w0.heap.size ≤ b := h1
      exact ⟨fun ho => by have := hc.ilt b (.inl (hc.oi b ho)); omega,fun ho => by have := hc.ilt b (.inr ho); omega,.inr (.inr ⟨h1,z1⟩)⟩
    · obtain ⟨q1,q2,q3⟩ := h.dis b h1
      exact ⟨fun ho => q1 (hc.oi b ho),q2,.inr (.inl (h.own b (.inl h1)))⟩
  have zt : ∀ b,zone ((ibFam P l N KB ι0 xs Zs Zb J Jx c).cx d) s.heap ι w true b → ¬ c.Oi b ∧ ¬ c.X b ∧ (Zb b ∨ Zs b ∨ d.I b ∨ (d.w0.heap.size ≤ b ∧ b < w.heap.size)) := by
    intro b hb
    obtain ⟨z1,z2,z3⟩ := hb
    rcases z3 with ⟨_,h1⟩ | h1
    · obtain ⟨q1,q2,q3⟩ := h.zb b h1
      refine ⟨q1,q2,?_⟩
      rcases q3 with q | q | q
      · exact .inl q
      · exact .inr (.inl q)
      · exact .inr (.inr (.inl q))
    · obtain ⟨q1,q2,q3⟩ := zf b ⟨z1,z2,.inr h1⟩
      exact ⟨q1,q2,.inr q3⟩
  have noO : ∀ b,b < c.W0.heap.size → (∀ β,c.Zi β b → ¬ ownedBy s.heap ι b) := fun b hb β hz ho => by
    rcases hO b ho with h1 | h1
    · exact (h.dis b h1).2.2 β hz
    · omega
  refine ⟨?_,fun b hb => ?_,fun b hb => ?_,zf,zt,fun β b hb => ?_,fun b hb => ?_,fun b hb => ?_,fun b hb => ?_,fun b hb => ?_,h.keptZ.trans (tr.kept fun b _ hb ht => ?_)⟩
  · have hp := h.past
    cases g with
    | none => exact hJx _ _ _ _ _ _ hp (tr.wide fun b hb => .inl hb) hOX (fun b => Iff.rfl)
    | some rest =>
      obtain ⟨pre,e,hj⟩ := hp
      exact ⟨pre,e,hJ pre _ _ _ _ _ _ hj (tr.wide fun b hb => .inl hb) hOX (fun b => Iff.rfl)⟩
  · rcases hb with hb | hb
    · rcases hO b hb with h1 | h1
      · exact .inl (h.own b (.inl h1))
      · exact .inr ⟨h1,hOlt b hb⟩
    · exact .inl (h.own b (.inr hb))
  · rcases hb with hb | hb
    · exact Nat.lt_of_lt_of_le (h.lt b hb) tr.size
    · exact hb.2
  · rcases h.zi β b hb with q | q | q
    · exact .inl q
    · exact .inr (.inl q)
    · exact .inr (.inr (.inl q))
  · rcases hO b hb with h1 | h1
    · exact h.dis b h1
    · exact ⟨fun hi => by have := hc.ilt b (.inl hi); omega,fun hi => by have := hc.ilt b (.inr hi); omega,fun β hz => by have := (hc.zlt β b hz).1; omega⟩
  · have hz := hc.ze _ b hb
    have hlt := (hc.zlt _ b hz).1
    exact ⟨by have := tr.size; omega,fun t ht e => noO b hlt _ hz ⟨t,ht,e⟩,.inr (.inl (h.ezs b hb))⟩
  · have hz := hc.ze _ b hb
    have hlt := (hc.zlt _ b hz).1
    rcases h.ezb b hb with q | q
    · exact .inl ⟨by have := tr.size; omega,fun t ht e => noO b hlt _ hz ⟨t,ht,e⟩,.inl ⟨rfl,q⟩⟩
    · exact .inr ⟨by have := tr.size; omega,fun t ht e => noO b hlt _ hz ⟨t,ht,e⟩,.inr (.inl q)⟩
  · have hlt := hc.ilt b hb
    have : w.heap[b]? = d.w0.heap[b]? := tr.block b (by omega) fun ht => by
      obtain ⟨q1,q2,_⟩ := h.dis b ht
      rcases hb with hb | hb
      · exact q1 hb
      · exact q2 hb
    rw [this]; exact h.keptI b hb
  · obtain ⟨_,_,q⟩ := h.dis b ht
    rcases hb with hb | hb
    · exact q _ hb
    · exact q _ hb
end
section
variable {E : Type} {P : Program} {l N : Nat} {KB : List Nat} {ι0 : Tags} {xs : List E} {Zs Zb : Nat → Prop} {J : List E → (Nat → Prop) → (Nat → Prop) → World → Prop} {Jx : (Nat → Prop) → (Nat → Prop) → World → Prop} {c : IbC}
theorem yieldStepI {lo : Nat} {vals : E → List AV} {Bk : E → Blk} (hc : IbOk c) (hJ : ∀ pre,Abide (J pre)) (hJx : Abide Jx) (hR : RoundOkG P lo vals (fun e => [(1,Bk e)]) xs Zs Zb J Jx)
    {dst : Nat} {y : Operand} {args : Array Operand} {ats : Array TypeId} {ty : TypeId} {p : String} {e : Array Edge} {gd : Option (Nat × Bool)} {s s2 : St} {T : Nat} {x : E} {rest : List E} (hd : dst < N)
    (hy : ∀ d,Ev ((ibFam P l N KB ι0 xs Zs Zb J Jx c).cx d) s y (.sc (.func (.yield lo) #[] #[]))) (ha : ∀ d,EvW ((ibFam P l N KB ι0 xs Zs Zb J Jx c).cx d) s args.toList ((vals x).map (AV.ren fun _ => T)))
    (hTB : look T s.heap = some (Bk x)) (hlst : (Bk x).lst = true) (hE2 : SubE s2.env s.env) (hH2 : SubH s2.heap s.heap) (hT2 : ¬ has T s2.heap)
    {d : ItD} {ι : Tags} {a : Act} {w : World} (K : Act → World → Prop) (Q : Exit → Act → World → Prop) (hH : (ibFam P l N KB ι0 xs Zs Zb J Jx c).H (some (x :: rest)) d) (r : Rel ((ibFam P l N KB ι0 xs Zs Zb J Jx c).cx d) s ι a w)
    (hk : ∀ b d' ι' a' w',(ibFam P l N KB ι0 xs Zs Zb J Jx c).H (if b = true then some rest else none) d' → Rel ((ibFam P l N KB ι0 xs Zs Zb J Jx c).cx d') (s2.put dst (.sc (.bool b))) ι' a' w' → K a' w') :
    (⟨some dst,.call { callee := .value y,args := args,argTypes := ats },ty,p,e,gd⟩ : Oper).wpIn (Fc (some l)) 0 P a w K Q := by
  have hn := IbH.now hH hc hJ hJx r
  obtain ⟨pre,exs,hj⟩ := hn.past
  have hv := (ha d).vrs r
  have sz0 : c.W0.heap.size ≤ w.heap.size := hn.keptZ.size
  have gB : ∀ b,ownedBy [(1,Bk x)] (fun _ => ι T) b ↔ ι T = some b := fun b => by
    constructor
    · rintro ⟨t,_,et⟩; exact et
    · exact fun h => ⟨1,⟨Bk x,look_cons_self _ _ _⟩,h⟩
  have gO : ∀ b,ι T = some b → ownedBy s.heap ι b := fun b hb => ⟨T,⟨_,hTB⟩,hb⟩
  have s2O : ∀ b,ownedBy s2.heap ι b → ownedBy s.heap ι b ∧ ¬ ι T = some b := fun b ⟨t,⟨kk,hk⟩,et⟩ => by
    refine ⟨⟨t,⟨kk,hH2.look hk⟩,et⟩,fun e1 => hT2 ?_⟩
    have := r.core.inj t T b ⟨kk,hH2.look hk⟩ ⟨_,hTB⟩ et e1
    exact this ▸ ⟨kk,hk⟩
  have nI : ∀ b,c.Ii b ∨ c.X b → ¬ ι T = some b := fun b hb e1 => by
    obtain ⟨q1,q2,_⟩ := hn.dis b (gO b e1)
    rcases hb with hb | hb
    · exact q1 hb
    · exact q2 hb
  have nZ : ∀ β b,c.Zi β b → ¬ ι T = some b := fun β b hb e1 => (hn.dis b (gO b e1)).2.2 β hb
  have nz : ∀ β b,zone ((ibFam P l N KB ι0 xs Zs Zb J Jx c).cx d) s.heap ι w β b → ¬ ownedBy s.heap ι b := fun β b hz ⟨t,ht,et⟩ => hz.2.1 t ht et
  obtain ⟨fn,tmps,assign,body,hrun,hround⟩ := hR pre x rest _ _ w (fun β b => zone ((ibFam P l N KB ι0 xs Zs Zb J Jx c).cx d) s.heap ι w β b ∨ c.Zi β b) (fun _ => ι T) (args.toList.map a.eval) exs hj
    (fun b hb => hn.own b (by
      rcases hb with hb | hb | hb
      · exact .inl hb
      · exact .inr (.inl (hc.oi b hb))
      · exact .inr (.inr hb))) hn.lt (fun b hb => .inl (gO b ((gB b).1 hb)))
    ⟨fun t k hk => by
      have e1 : k = Bk x := by
        by_cases e1 : t = 1
        · subst e1; rw [look_cons_self] at hk; exact (Option.some.inj hk).symm
        · rw [look_cons_ne e1] at hk; cases hk
      subst e1
      have h0 := r.core.blk T _ hTB
      unfold BlkR at h0 ⊢
      cases hx1 : ι T with
      | none => simp only [hx1] at h0 ⊢; exact h0
      | some b =>
        simp only [hx1,hlst,cond_true] at h0 ⊢
        obtain ⟨cur,q1,q2,q3⟩ := h0
        refine ⟨cur,q1,q2,fun i hi => ?_⟩
        obtain ⟨u,hu,hvv⟩ := q3 i hi
        exact ⟨u,hu,hvv.mono (fun _ _ h => h) _ _ (fun _ b hb => .inl hb) (fun _ _ _ _ _ h => h) (fun _ _ _ h => h)⟩,
      fun t t' b h1 h2 _ _ => by
        have one : ∀ {t},has t [(1,Bk x)] → t = 1 := fun {t} ⟨k,hk⟩ => by
          by_cases e1 : t = 1
          · exact e1
          · rw [look_cons_ne e1] at hk; cases hk
        rw [one h1,one h2]⟩
    (fun β b hz => by
      rcases hz with hz | hz
      · have no := nz β b hz
        cases β with
        | false =>
          obtain ⟨q1,q2,q3⟩ := hn.zs b hz
          refine ⟨hz.1,fun ho => ?_,?_⟩
          · rcases ho with ho | ho | ho
            · exact no ho
            · exact q1 ho
            · exact q2 ho
          · rcases q3 with q | q
            · exact .inl q
            · exact .inr (.inr q)
        | true =>
          obtain ⟨q1,q2,q3⟩ := hn.zb b hz
          refine ⟨hz.1,fun ho => ?_,?_⟩
          · rcases ho with ho | ho | ho
            · exact no ho
            · exact q1 ho
            · exact q2 ho
          · rcases q3 with q | q | q
            · exact .inr (.inl ⟨rfl,q⟩)
            · exact .inl q
            · exact .inr (.inr q)
      · obtain ⟨q1,q2,q3⟩ := hc.zlt β b hz
        refine ⟨by omega,fun ho => ?_,hn.zi β b hz⟩
        rcases ho with ho | ho | ho
        · exact (hn.dis b ho).2.2 β hz
        · exact q2 ho
        · exact q3 ho)
    ⟨by rw [hv.1,List.length_map],fun i hi => by
      obtain ⟨u,hu,hvv⟩ := hv.2 i (by rw [List.length_map]; exact hi)
      rw [List.getElem_map] at hvv
      exact ⟨u,hu,hvv.unren.mono (fun _ _ h => h) _ _ (fun _ _ h => .inl h) (fun _ _ _ _ _ h => h) (fun _ _ _ h => h)⟩⟩
  have hround' : RoundIn (Fc (some l)) 0 P lo fn tmps assign body w _ := hround
  refine ⟨fun _ _ => trivial,?_⟩
  rw [semAt_plain _ _ _ (fun _ h => by cases h)]
  have he : a.eval y = .func (.yield lo) #[] #[] := (hy d).sc r
  have hexec : (execOp a.eval ⟨some dst,.call { callee := .value y,args := args,argTypes := ats },ty,p,e,gd⟩).run P w = .ok (.round lo fn tmps assign body) w := by
    have hargs : (args.toList.map a.eval).toArray = args.map a.eval := by
      apply Array.ext'
      simp
    rw [hargs] at hrun
    simp [execOp,resolve,he,Deferred.ofValue,invoke,hrun]
  rw [hexec,Oper.uponIn_round]
  refine ⟨(fun h => by cases h),RoundIn.mono hround' ?_⟩
  rintro e' W' ⟨kept,keptA,hres⟩
  have szW : w.heap.size ≤ W'.heap.size := kept.size
  have fin : ∀ b,(match (if b = true then some rest else none) with
      | some rest => ∃ pre,xs = pre ++ rest ∧ J pre (fun b => (ownedBy s.heap ι b ∨ c.Oi b ∨ c.X b) ∧ ¬ ownedBy [(1,Bk x)] (fun _ => ι T) b) (fun b => (d.I b ∨ (d.w0.heap.size ≤ b ∧ b < w.heap.size)) ∧ ¬ ownedBy [(1,Bk x)] (fun _ => ι T) b) W'
      | none => Jx (fun b => (ownedBy s.heap ι b ∨ c.Oi b ∨ c.X b) ∧ ¬ ownedBy [(1,Bk x)] (fun _ => ι T) b) (fun b => (d.I b ∨ (d.w0.heap.size ≤ b ∧ b < w.heap.size)) ∧ ¬ ownedBy [(1,Bk x)] (fun _ => ι T) b) W') → K (a.put (some dst) (.bool b)) W' := by
    intro b hp
    have r2 := r.part2 (some l) (dfr := []) (tm := a.tmps) rfl (env := s2.env) (Hx := s2.heap) (fun t v h => hE2.look h) (fun t kk h => hH2.look h) (KB := KB) (ι0 := ι0) r.stab (kept.sub fun b hb => by
      rcases hb with hb | hb | hb
      · obtain ⟨q1,q2⟩ := s2O b hb
        exact .inl ⟨.inl q1,fun h => q2 ((gB b).1 h)⟩
      · exact .inr (.inl (.inl hb))
      · exact .inr (.inr (.inl hb)))
    have shrink : ∀ b,ownedBy s2.heap ι b ∨ c.Oi b ∨ c.X b → ((ownedBy s.heap ι b ∨ c.Oi b ∨ c.X b) ∧ ¬ ownedBy [(1,Bk x)] (fun _ => ι T) b) ∨ W'.heap.size ≤ b := fun b hb => by
      rcases hb with hb | hb | hb
      · obtain ⟨q1,q2⟩ := s2O b hb
        exact .inl ⟨.inl q1,fun h => q2 ((gB b).1 h)⟩
      · exact .inl ⟨.inr (.inl hb),fun h => nI b (.inl (hc.oi b hb)) ((gB b).1 h)⟩
      · exact .inl ⟨.inr (.inr hb),fun h => nI b (.inr hb) ((gB b).1 h)⟩
    have sameI : ∀ b,(fun b => (d.I b ∨ (d.w0.heap.size ≤ b ∧ b < w.heap.size)) ∧ ¬ ownedBy [(1,Bk x)] (fun _ => ι T) b) b ↔ (fun b => (d.I b ∨ (d.w0.heap.size ≤ b ∧ b < w.heap.size)) ∧ ¬ ownedBy [(1,Bk x)] (fun _ => ι T) b) b ∨ (W'.heap.size ≤ b ∧ b < W'.heap.size) :=
      fun b => ⟨.inl,fun h => by rcases h with h | h; exact h; omega⟩
    refine hk b ⟨W',_,_,_,fun b => (d.I b ∨ (d.w0.heap.size ≤ b ∧ b < w.heap.size)) ∧ ¬ ownedBy [(1,Bk x)] (fun _ => ι T) b⟩ ι _ _ ⟨?_,fun b hb => ?_,fun b hb => Nat.lt_of_lt_of_le (hn.lt b hb.1) szW,fun b hb => ?_,fun b hb => ?_,fun β b hb => ?_,fun b hb => ?_,hn.ezs,hn.ezb,fun b hb => ?_,?_⟩ (by
      have h3 := r2.put (d := dst) (u := .bool b) hd (.sc _ _ _)
      have e1 : a = ⟨a.tmps,[]⟩ := by
        have := r.dfr
        obtain ⟨x,y⟩ := a
        simp only at this
        subst this
        rfl
      rw [e1]
      exact h3)
    · cases b with
      | true =>
        obtain ⟨pre',e2,hj'⟩ := hp
        exact ⟨pre',e2,hJ pre' _ _ _ _ _ _ hj' (Trans.refl _ _) shrink sameI⟩
      | false => exact hJx _ _ _ _ _ _ hp (Trans.refl _ _) shrink sameI
    · rcases hb with hb | hb
      · obtain ⟨q1,q2⟩ := s2O b hb
        exact ⟨hn.own b (.inl q1),fun h => q2 ((gB b).1 h)⟩
      · exact ⟨hn.own b (.inr hb),fun h => nI b hb ((gB b).1 h)⟩
    · obtain ⟨q1,q2,q3⟩ := hn.zs b hb
      refine ⟨q1,q2,?_⟩
      rcases q3 with q | q
      · exact .inl q
      · exact .inr ⟨q,fun h => nz _ b hb (gO b ((gB b).1 h))⟩
    · obtain ⟨q1,q2,q3⟩ := hn.zb b hb
      refine ⟨q1,q2,?_⟩
      rcases q3 with q | q | q
      · exact .inl q
      · exact .inr (.inl q)
      · exact .inr (.inr ⟨q,fun h => nz _ b hb (gO b ((gB b).1 h))⟩)
    · rcases hn.zi β b hb with q | q | q
      · exact .inl q
      · exact .inr (.inl q)
      · exact .inr (.inr ⟨q,fun h => nZ β b hb ((gB b).1 h)⟩)
    · exact hn.dis b (s2O b hb).1
    · rw [keptA b (hn.own b (.inr hb)) (fun h => nI b hb ((gB b).1 h))]
      exact hn.keptI b hb
    · exact hn.keptZ.trans (kept.sub fun b hb => by
        rcases hb with hb | hb
        · exact .inr (.inl (.inr hb))
        · exact .inr (.inr (.inr hb)))
  rcases hres with ⟨rfl,hj'⟩ | ⟨rfl,hj'⟩
  · exact fin true ⟨pre ++ [x],by rw [exs]; simp,hj'⟩
  · exact fin false hj'
end
theorem Trans.putIn {T : Nat → Prop} {w : World} {l : Nat} {o o' : Obj} (hl : w.heap[l]? = some o) (ho : o.isCells = false) (hT : T l) : Trans T w (w.putObj l o') :=
  ⟨rfl,rfl,rfl,by simp,fun b _ hn => World.putObj_heap_other (fun e => hn (e ▸ hT)),bsz_putObj hl ho⟩
structure RgJI {E : Type} (P : Program) (N : Nat) (KB : List Nat) (ιs : Tags) (env : List (Nat × AV)) (tm : Array Value) (Hx : List (Nat × Blk)) (xs : List E) (ZsO ZbO : Nat → Prop) (J : List E → (Nat → Prop) → (Nat → Prop) → World → Prop) (Jx : (Nat → Prop) → (Nat → Prop) → World → Prop)
    (z0 : Zone) (X : Nat → Prop) (ms : List Nat) (l D : Nat) (rec : Loop) (g : Option (List E)) (O I : Nat → Prop) (W : World) : Prop where
  st : ∃ ι Zs Zb Io,Rel ⟨P,none,N,[],W,Zs,Zb,ownedBy Hx ι,KB,ιs⟩ ⟨env,Hx⟩ ι ⟨tm,[]⟩ W ∧ (∀ b,ownedBy Hx ι b → ¬ I b ∧ ¬ O b ∧ ¬ X b ∧ Io b ∧ ∀ β,¬ z0 β b) ∧ (∀ b,Zs b ∨ Zb b → b < W.heap.size ∧ ¬ O b ∧ ¬ X b) ∧
    (∀ b,Zs b → ZsO b ∨ Io b) ∧ (∀ b,Zb b → ZbO b ∨ ZsO b ∨ Io b) ∧ (∀ b,I b ∨ X b → Io b) ∧ (∀ b,Io b → b < W.heap.size) ∧ (∀ β b,z0 β b → ZsO b ∨ (β = true ∧ ZbO b) ∨ Io b) ∧
    (match g with | some rest => ∃ pre,xs = pre ++ rest ∧ J pre (fun b => ownedBy Hx ι b ∨ O b ∨ X b) Io W | none => Jx (fun b => ownedBy Hx ι b ∨ O b ∨ X b) Io W)
  xI : ∀ b,X b → ¬ I b ∧ ¬ O b
  lX : X l ∧ X D ∧ l ≠ D
  z0O : ∀ β b,z0 β b → b < W.heap.size ∧ ¬ O b ∧ ¬ X b
  rc : W.heap[l]? = some (.loop rec)
  mark : W.heap[D]? = some (.deferred (some []))
  marks : ∀ B,B ∈ ms → W.heap[B]? = some (.deferred (some [])) ∧ X B ∧ B ≠ l
section
variable {E : Type} {P : Program} {N : Nat} {KB : List Nat} {ιs : Tags} {env : List (Nat × AV)} {tm : Array Value} {Hx : List (Nat × Blk)} {xso : List E} {ZsO ZbO : Nat → Prop} {J : List E → (Nat → Prop) → (Nat → Prop) → World → Prop} {Jx : (Nat → Prop) → (Nat → Prop) → World → Prop}
  {z0 : Zone} {X : Nat → Prop} {ms : List Nat} {l D : Nat} {rec : Loop} {g : Option (List E)}
theorem RgJI.abide (hJ : ∀ pre,Abide (J pre)) (hJx : Abide Jx) : Abide (RgJI P N KB ιs env tm Hx xso ZsO ZbO J Jx z0 X ms l D rec g) := by
  intro O O' I I' W W' hI tr hO hI'
  obtain ⟨ι,Zs,Zb,Io,r,h1,h2,h3,h4,h5,h6,h7,hp⟩ := hI.st
  have sz : W.heap.size ≤ W'.heap.size := tr.size
  have hz : ∀ β b,zone ⟨P,none,N,[],W,Zs,Zb,ownedBy Hx ι,KB,ιs⟩ Hx ι W β b → b < W.heap.size ∧ ¬ O b ∧ ¬ X b := fun β b h => by
    rcases zone_at h with ⟨_,h⟩ | h
    · exact h2 b (.inr h)
    · exact h2 b (.inl h)
  have kept : Kept (fun b => ownedBy Hx ι b ∨ zone ⟨P,none,N,[],W,Zs,Zb,ownedBy Hx ι,KB,ιs⟩ Hx ι W false b ∨ zone ⟨P,none,N,[],W,Zs,Zb,ownedBy Hx ι,KB,ιs⟩ Hx ι W true b) W W' :=
    tr.kept fun b _ hb => by
      rcases hb with hb | hb | hb
      · exact (h1 b hb).2.1
      · exact (hz _ b hb).2.1
      · exact (hz _ b hb).2.1
  have r2 := r.anew none (dfr := []) (tm := tm) rfl kept
  have hO' : ∀ b,b < W.heap.size → ¬ O b → ¬ O' b := fun b hb hn h => by
    rcases hO b h with h | h
    · exact hn h
    · omega
  have hI2 : ∀ b,b < W.heap.size → ¬ I b → ¬ I' b := fun b hb hn h => by
    rcases (hI' b).1 h with h | h
    · exact hn h
    · omega
  have hOX : ∀ b,ownedBy Hx ι b ∨ O' b ∨ X b → (ownedBy Hx ι b ∨ O b ∨ X b) ∨ W.heap.size ≤ b := fun b hb => by
    rcases hb with hb | hb | hb
    · exact .inl (.inl hb)
    · rcases hO b hb with h | h
      · exact .inl (.inr (.inl h))
      · exact .inr h
    · exact .inl (.inr (.inr hb))
  have ob : ∀ b o,W.heap[b]? = some o → ¬ O b → W'.heap[b]? = some o := fun b o h hn => by
    rw [tr.block b (Array.getElem?_eq_some_iff.1 h).1 hn]; exact h
  refine ⟨⟨ι,_,_,fun b => Io b ∨ (W.heap.size ≤ b ∧ b < W'.heap.size),r2,fun b hb => ?_,fun b hb => ?_,fun b hb => ?_,fun b hb => ?_,fun b hb => ?_,fun b hb => ?_,fun β b hb => ?_,?_⟩,fun b hb => ?_,hI.lX,fun β b hb => ?_,ob l _ hI.rc (hI.xI l hI.lX.1).2,ob D _ hI.mark (hI.xI D hI.lX.2.1).2,fun B hB => ?_⟩
  · obtain ⟨q1,q2,q3,q4,q5⟩ := h1 b hb
    have hlt := h6 b q4
    exact ⟨hI2 b hlt q1,hO' b hlt q2,q3,.inl q4,q5⟩
  · have : b < W.heap.size ∧ ¬ O b ∧ ¬ X b := by
      rcases hb with hb | hb
      · exact hz _ b hb
      · exact hz _ b hb
    exact ⟨by omega,hO' b this.1 this.2.1,this.2.2⟩
  · rcases zone_at hb with ⟨h,_⟩ | h
    · cases h
    · rcases h3 b h with q | q
      · exact .inl q
      · exact .inr (.inl q)
  · rcases zone_at hb with ⟨_,h⟩ | h
    · rcases h4 b h with q | q | q
      · exact .inl q
      · exact .inr (.inl q)
      · exact .inr (.inr (.inl q))
    · rcases h3 b h with q | q
      · exact .inr (.inl q)
      · exact .inr (.inr (.inl q))
  · rcases hb with hb | hb
    · rcases (hI' b).1 hb with h | h
      · exact .inl (h5 b (.inl h))
      · exact .inr h
    · exact .inl (h5 b (.inr hb))
  · rcases hb with hb | hb
    · have := h6 b hb; omega
    · exact hb.2
  · rcases h7 β b hb with q | q | q
    · exact .inl q
    · exact .inr (.inl q)
    · exact .inr (.inr (.inl q))
  · cases g with
    | none => exact hJx _ _ _ _ _ _ hp (tr.wide fun b hb => .inr (.inl hb)) hOX (fun b => Iff.rfl)
    | some rest =>
      obtain ⟨pre,e,hj⟩ := hp
      exact ⟨pre,e,hJ pre _ _ _ _ _ _ hj (tr.wide fun b hb => .inr (.inl hb)) hOX (fun b => Iff.rfl)⟩
  · have hlt := h6 b (h5 b (.inr hb))
    obtain ⟨q1,q2⟩ := hI.xI b hb
    exact ⟨hI2 b hlt q1,hO' b hlt q2⟩
  · obtain ⟨q1,q2,q3⟩ := hI.z0O β b hb
    exact ⟨by omega,hO' b q1 q2,q3⟩
  · obtain ⟨q1,q2,q3⟩ := hI.marks B hB
    exact ⟨ob B _ q1 (hI.xI B q2).2,q2,q3⟩
end
structure BodyOkI (P : Program) (N l : Nat) (KB : List Nat) (ιs : Tags) (env : List (Nat × AV)) {σ E Eo : Type} (xso : List Eo) (ZsO ZbO : Nat → Prop) (J : List Eo → (Nat → Prop) → (Nat → Prop) → World → Prop) (Jx : (Nat → Prop) → (Nat → Prop) → World → Prop)
    (Hp : σ → List (Nat × Blk)) (Hb : E → σ → List (Nat × Blk)) (step : (σ → Option (List Eo)) → E → σ → Option (List Eo)) (vals : E → List AV) (ps : Array Nat) (assign body : Code) (envb : E → σ → List (Nat × AV)) (M : Exit → σ → Option (List Eo) → Prop) : Prop where
  hps : ∀ p,p ∈ ps.toList → p < N
  hvl : ∀ e,(vals e).length = ps.size
  assign : ∀ w0 Zs Zb T0 ι0 x e,AWP ⟨P,some l,N,[],w0,Zs,Zb,T0,KB,ι0⟩ assign (fun e' s' => e' = .normal ∧ VC ⟨P,some l,N,[],w0,Zs,Zb,T0,KB,ι0⟩ s' ⟨envb e x,Hb e x⟩) (puts ⟨env,Hp x⟩ (ps.toList.zip (vals e)))
  body : ∀ c,IbOk c → ∀ nx x e rest,step nx e x = some rest → AWPF (ibFam P l N KB ιs xso ZsO ZbO J Jx c) body (fun e' g' s' => ∃ x',(∀ d,VC ((ibFam P l N KB ιs xso ZsO ZbO J Jx c).cx d) s' ⟨[],Hp x'⟩) ∧
    ((e' = .normal ∧ ∃ rest',g' = some rest' ∧ nx x' = some rest') ∨ ((e' = .ret ∨ ∃ id,e' = .exit id) ∧ M e' x' g'))) (some rest) ⟨envb e x,Hb e x⟩
section
variable {P : Program} {N : Nat} {KB : List Nat} {ιs : Tags} {env : List (Nat × AV)} {tm : Array Value} {ZsO ZbO : Nat → Prop} {Jx : (Nat → Prop) → (Nat → Prop) → World → Prop} {z0 : Zone} {X : Nat → Prop} {ms : List Nat} {l D : Nat}
variable {σ E Eo : Type} {xso : List Eo} {J : List Eo → (Nat → Prop) → (Nat → Prop) → World → Prop} {Hp : σ → List (Nat × Blk)} {Hb : E → σ → List (Nat × Blk)} {step : (σ → Option (List Eo)) → E → σ → Option (List Eo)} {k : σ → Option (List Eo)} {vals : E → List AV} {ps : Array Nat} {assign body : Code} {envb : E → σ → List (Nat × AV)} {M : Exit → σ → Option (List Eo) → Prop} {fn : FuncId}
theorem RgJI.round {xs : List E} (hJ : ∀ pre,Abide (J pre)) (hJx : Abide Jx) (htag : ∀ t v,look t env = some v → ∀ t',AV.free t' v = false → t' ∈ KB)
    (hB : BodyOkI P N l KB ιs env xso ZsO ZbO J Jx Hp Hb step vals ps assign body envb M) :
    RoundOk P l vals xs (fun b => z0 false b) (fun b => z0 true b)
      (fun pre O I W => ∃ x rest go,xs = pre ++ rest ∧ rangeL step rest k x = some go ∧ RgJI P N KB ιs env tm (Hp x) xso ZsO ZbO J Jx z0 X ms l D (recOf fn tm ps assign body D .ready none) (some go) O I W)
      (fun O I W => ∃ x e2 c g,((e2 = .ret ∧ c = Code.ret) ∨ ∃ id,e2 = .exit id ∧ c = .exit id) ∧ M e2 x g ∧ RgJI P N KB ιs env tm (Hp x) xso ZsO ZbO J Jx z0 X ms l D (recOf fn tm ps assign body D .done (some c)) g O I W) := by
  rintro pre e rest0 O I W Z us exs ⟨x,rest,go,exs',hx,hI⟩ hOI hIlt hZ hvs
  have hrest : rest = e :: rest0 := List.append_cancel_left (exs'.symm.trans exs)
  subst hrest
  rw [rangeL] at hx
  obtain ⟨ι,Zs,Zb,Io,r0,h1,h2,h3,h4,h5,h6,h7,hp⟩ := hI.st
  have hlW : l < W.heap.size := (Array.getElem?_eq_some_iff.1 hI.rc).1
  have hDW : D < W.heap.size := (Array.getElem?_eq_some_iff.1 hI.mark).1
  obtain ⟨xl,xD,lD⟩ := hI.lX
  let C1 : Ctx := ⟨P,some l,N,[],W,fun b => Zs b ∨ Z false b,fun b => Zb b ∨ Z true b,ownedBy (Hp x) ι,KB,ιs⟩
  have hZown : ∀ β b,Z β b → ¬ ownedBy (Hp x) ι b := by
    intro β b hz ho
    obtain ⟨_,_,h⟩ := hZ β b hz
    obtain ⟨q1,_,_,_,q5⟩ := h1 b ho
    rcases h with h | ⟨_,h⟩ | h
    · exact q5 _ h
    · exact q5 _ h
    · exact q1 h
  have hZX : ∀ β b,Z β b → ¬ X b := by
    intro β b hz hX
    obtain ⟨_,_,h⟩ := hZ β b hz
    rcases h with h | ⟨_,h⟩ | h
    · exact (hI.z0O _ b h).2.2 hX
    · exact (hI.z0O _ b h).2.2 hX
    · exact (hI.xI b hX).1 h
  have hZi : ∀ β b,Z β b → ZsO b ∨ (β = true ∧ ZbO b) ∨ Io b := by
    intro β b hz
    obtain ⟨_,_,h⟩ := hZ β b hz
    rcases h with h | ⟨e1,h⟩ | h
    · rcases h7 _ b h with q | ⟨e2,_⟩ | q
      · exact .inl q
      · cases e2
      · exact .inr (.inr q)
    · rcases h7 _ b h with q | ⟨_,q⟩ | q
      · exact .inl q
      · exact .inr (.inl ⟨e1,q⟩)
      · exact .inr (.inr q)
    · exact .inr (.inr (h5 b (.inl h)))
  have hzone1 : ∀ β b,zone ⟨P,none,N,[],W,Zs,Zb,ownedBy (Hp x) ι,KB,ιs⟩ (Hp x) ι W β b → zone C1 (Hp x) ι W β b := by
    intro β b hz
    refine ⟨hz.1,hz.2.1,?_⟩
    rcases zone_at hz with ⟨e1,h⟩ | h
    · exact .inl ⟨e1,.inl h⟩
    · exact .inr (.inl (.inl h))
  have hzoneZ : ∀ β b,Z β b → zone C1 (Hp x) ι W β b := by
    intro β b hz
    refine ⟨(hZ β b hz).1,fun t ht e1 => hZown β b hz ⟨t,ht,e1⟩,?_⟩
    cases β with
    | true => exact .inl ⟨rfl,.inr hz⟩
    | false => exact .inr (.inl (.inr hz))
  have r1 : Rel C1 ⟨env,Hp x⟩ ι ⟨tm,[]⟩ W := by
    refine ⟨r0.size,rfl,fun d v hl => (r0.env d v hl).mono (fun _ _ h => h) _ _ hzone1 (fun _ _ _ _ _ h => h) (fun _ _ _ h => h),⟨fun t kk hk => ?_,r0.core.inj,r0.core.own,Trans.refl _ _⟩,r0.stab⟩
    have h0 := r0.core.blk t kk hk
    unfold BlkR at h0 ⊢
    cases hxx : ι t with
    | none => simp only [hxx] at h0 ⊢; exact h0
    | some b =>
      simp only [hxx] at h0 ⊢
      obtain ⟨cur,q1,q2,q3⟩ := h0
      refine ⟨cur,q1,q2,fun i hi => ?_⟩
      obtain ⟨u,hu,hv⟩ := q3 i hi
      refine ⟨u,hu,hv.mono (fun _ _ h => h) _ _ ?_ (fun _ _ _ _ _ h => h) (fun _ _ _ h => h)⟩
      cases kk.lst with
      | true => exact fun _ b hb => hzone1 _ _ hb
      | false => exact hzone1
  have hvs1 : VRs W (zone C1 (Hp x) ι W) ι (vals e) us := ⟨hvs.1,fun i hi => by
    obtain ⟨u,hu,hv⟩ := hvs.2 i hi
    exact ⟨u,hu,hv.mono (fun _ _ h => h) _ _ hzoneZ (fun _ _ _ _ _ h => h) (fun t b _ h => by cases h)⟩⟩
  have r2 := Rel.puts (ps.toList) (vals e) us r1 hB.hps (by rw [hB.hvl]; simp) hvs1
  have husz : us.toArray.size = ps.size := by rw [List.size_toArray,hvs.1,hB.hvl]
  have hy := run_yield (P := P) (args := us.toArray) hI.rc (by simpa [recOf] using husz)
  have hfold : (ps.zip us.toArray).foldl (fun tmps q => tmps.setIfInBounds q.1 q.2) tm = (ps.toList.zip us).foldl (fun t q => t.setIfInBounds q.1 q.2) tm := by
    rw [← Array.foldl_toList]
    simp
  refine ⟨fn,_,assign,body,hy,roundIn_of_wpIn trivial ?_⟩
  have ha := hB.assign W (fun b => Zs b ∨ Z false b) (fun b => Zb b ∨ Z true b) (ownedBy (Hp x) ι) ιs x e ι ⟨(ps.toList.zip us).foldl (fun t q => t.setIfInBounds q.1 q.2) tm,[]⟩ W r2
  rw [show (Array.zip (recOf fn tm ps assign body D .ready none).params us.toArray).foldl (fun tmps x => match x with | (t,a) => tmps.setIfInBounds t a) (recOf fn tm ps assign body D .ready none).tmps = _ from hfold]
  refine wpIn_mono ha ?_
  rintro e1 a1 w1 ⟨s1,ι1,r3,rfl,hvc⟩
  obtain ⟨ι2,r4⟩ := hvc ι1 a1 w1 r3
  have tr1 : Trans (ownedBy (Hp x) ι) W w1 := r4.core.tr
  have sz1 : W.heap.size ≤ w1.heap.size := tr1.size
  have keepW : ∀ b,b < W.heap.size → ¬ ownedBy (Hp x) ι b → w1.heap[b]? = W.heap[b]? := fun b hb hn => tr1.block b hb hn
  have nX : ∀ b,X b → ¬ ownedBy (Hp x) ι b := fun b hb ho => (h1 b ho).2.2.1 hb
  have xW : ∀ b,X b → b < W.heap.size := fun b hb => h6 b (h5 b (.inr hb))
  have hl1 : w1.heap[l]? = some (.loop (recOf fn tm ps assign body D .ready none)) := by rw [keepW l hlW (nX l xl)]; exact hI.rc
  have hD1 : w1.heap[D]? = some (.deferred (some [])) := by rw [keepW D hDW (nX D xD)]; exact hI.mark
  refine ⟨_,run_beginRound hl1 rfl,?_⟩
  have kp1 : ∀ B,Kept B w1 (w1.putObj l (.loop { recOf fn tm ps assign body D .ready none with state := .busy })) := fun B => Kept.putObj hl1 rfl
  have hl2 : (w1.putObj l (.loop { recOf fn tm ps assign body D .ready none with state := .busy })).heap[l]? = some (.loop { recOf fn tm ps assign body D .ready none with state := .busy }) := World.putObj_heap_same (Array.getElem?_eq_some_iff.1 hl1).1
  have ob2 : ∀ b,b ≠ l → (w1.putObj l (.loop { recOf fn tm ps assign body D .ready none with state := .busy })).heap[b]? = w1.heap[b]? := fun b hb => World.putObj_heap_other hb
  have sz2 : (w1.putObj l (.loop { recOf fn tm ps assign body D .ready none with state := .busy })).heap.size = w1.heap.size := by simp
  have tp2 : ∀ T : Nat → Prop,T l → Trans T w1 (w1.putObj l (.loop { recOf fn tm ps assign body D .ready none with state := .busy })) := fun T hT => Trans.putIn hl1 rfl hT
  generalize w1.putObj l (.loop { recOf fn tm ps assign body D .ready none with state := .busy }) = w2 at kp1 hl2 ob2 sz2 tp2 ⊢
  have r5 := r4.anew (some l) (dfr := []) (tm := a1.tmps) rfl (kp1 _)
  have ea : a1 = ⟨a1.tmps,[]⟩ := by
    have := r4.dfr
    obtain ⟨u,v⟩ := a1
    simp only at this
    subst this
    rfl
  rw [ea]
  have o12 : ∀ b,ownedBy (Hb e x) ι2 b → W.heap.size ≤ b ∨ ownedBy (Hp x) ι b := by
    rintro b ⟨t,ht,et⟩
    exact r4.core.own t b ht et
  have olt : ∀ b,ownedBy (Hb e x) ι2 b → b < w1.heap.size := fun b hb => r4.core.lt hb
  let c : IbC := ⟨w2,O,I,X,fun β b => Z β b ∨ z0 β b ∨ zone ⟨P,none,N,[],W,Zs,Zb,ownedBy (Hp x) ι,KB,ιs⟩ (Hp x) ι W β b,fun β b => zone ⟨P,none,N,[],W,Zs,Zb,ownedBy (Hp x) ι,KB,ιs⟩ (Hp x) ι W β b⟩
  have zE : ∀ β b,zone ⟨P,none,N,[],W,Zs,Zb,ownedBy (Hp x) ι,KB,ιs⟩ (Hp x) ι W β b → b < W.heap.size ∧ ¬ O b ∧ ¬ X b ∧ ¬ ownedBy (Hp x) ι b := fun β b hz => by
    have no : ¬ ownedBy (Hp x) ι b := fun ⟨t,ht,et⟩ => hz.2.1 t ht et
    rcases zone_at hz with ⟨_,h⟩ | h
    · obtain ⟨q1,q2,q3⟩ := h2 b (.inr h); exact ⟨q1,q2,q3,no⟩
    · obtain ⟨q1,q2,q3⟩ := h2 b (.inl h); exact ⟨q1,q2,q3,no⟩
  have zAll : ∀ β b,(Z β b ∨ z0 β b ∨ zone ⟨P,none,N,[],W,Zs,Zb,ownedBy (Hp x) ι,KB,ιs⟩ (Hp x) ι W β b) → b < W.heap.size ∧ ¬ O b ∧ ¬ X b ∧ ¬ ownedBy (Hp x) ι b := fun β b hz => by
    rcases hz with hz | hz | hz
    · exact ⟨(hZ β b hz).1,(hZ β b hz).2.1,hZX β b hz,hZown β b hz⟩
    · obtain ⟨q1,q2,q3⟩ := hI.z0O β b hz
      exact ⟨q1,q2,q3,fun ho => (h1 b ho).2.2.2.2 β hz⟩
    · exact zE β b hz
  have hc : IbOk c := ⟨hOI,fun b hb => by
    show b < w2.heap.size
    rcases hb with hb | hb
    · have := hIlt b hb; omega
    · have := xW b hb; omega,fun β b hz => by
    obtain ⟨q1,q2,q3,_⟩ := zAll β b hz
    exact ⟨by show b < w2.heap.size; omega,q2,q3⟩,fun β b hz => .inr (.inr hz)⟩
  have oi1 : ∀ b,ownedBy (Hb e x) ι2 b ∨ I b ∨ X b → Io b ∨ (W.heap.size ≤ b ∧ b < w1.heap.size) := fun b hb => by
    rcases hb with hb | hb
    · rcases o12 b hb with h | h
      · exact .inr ⟨h,olt b hb⟩
      · exact .inl (h1 b h).2.2.2.1
    · exact .inl (h5 b hb)
  have zf1 : ∀ b,zone C1 (Hb e x) ι2 w1 false b → ¬ O b ∧ ¬ X b ∧ (ZsO b ∨ Io b ∨ (W.heap.size ≤ b ∧ b < w1.heap.size)) := fun b hz => by
    rcases hz.2.2 with ⟨e0,_⟩ | (h | h) | h | h
    · cases e0
    · obtain ⟨_,q2,q3⟩ := h2 b (.inl h)
      refine ⟨q2,q3,?_⟩
      rcases h3 b h with q | q
      · exact .inl q
      · exact .inr (.inl q)
    · refine ⟨(hZ _ b h).2.1,hZX _ b h,?_⟩
      rcases hZi _ b h with q | ⟨e2,_⟩ | q
      · exact .inl q
      · cases e2
      · exact .inr (.inl q)
    · have h : W.heap.size ≤ b := h
      exact ⟨fun ho => by have := hIlt b (hOI b ho); omega,fun hX => by have := xW b hX; omega,.inr (.inr ⟨h,hz.1⟩)⟩
    · obtain ⟨_,q2,q3,q4,_⟩ := h1 b h
      exact ⟨q2,q3,.inr (.inl q4)⟩
  have zt1 : ∀ b,zone C1 (Hb e x) ι2 w1 true b → ¬ O b ∧ ¬ X b ∧ (ZbO b ∨ ZsO b ∨ Io b ∨ (W.heap.size ≤ b ∧ b < w1.heap.size)) := fun b hz => by
    rcases hz.2.2 with ⟨_,h | h⟩ | h
    · obtain ⟨_,q2,q3⟩ := h2 b (.inr h)
      refine ⟨q2,q3,?_⟩
      rcases h4 b h with q | q | q
      · exact .inl q
      · exact .inr (.inl q)
      · exact .inr (.inr (.inl q))
    · refine ⟨(hZ _ b h).2.1,hZX _ b h,?_⟩
      rcases hZi _ b h with q | ⟨_,q⟩ | q
      · exact .inr (.inl q)
      · exact .inl q
      · exact .inr (.inr (.inl q))
    · obtain ⟨q1,q2,q3⟩ := zf1 b ⟨hz.1,hz.2.1,.inr h⟩
      exact ⟨q1,q2,.inr q3⟩
  have sameI : ∀ (Q : Nat → Prop) b,Q b ↔ Q b ∨ (w2.heap.size ≤ b ∧ b < w2.heap.size) := fun Q b => ⟨.inl,fun h => by rcases h with h | h; exact h; omega⟩
  have hw1 : ∀ (K : (Nat → Prop) → (Nat → Prop) → World → Prop),Abide K → K (fun b => ownedBy (Hp x) ι b ∨ O b ∨ X b) Io W → K (fun b => ownedBy (Hb e x) ι2 b ∨ O b ∨ X b) (fun b => Io b ∨ (W.heap.size ≤ b ∧ b < w1.heap.size)) w2 := by
    intro K hK h
    have s1 : K (fun b => ownedBy (Hb e x) ι2 b ∨ O b ∨ X b) (fun b => Io b ∨ (W.heap.size ≤ b ∧ b < w1.heap.size)) w1 := hK _ _ _ _ _ _ h (tr1.wide fun b hb => .inl hb) (fun b hb => by
      rcases hb with hb | hb
      · rcases o12 b hb with h | h
        · exact .inr h
        · exact .inl (.inl h)
      · exact .inl (.inr hb)) (fun b => Iff.rfl)
    exact hK _ _ _ _ _ _ s1 (tp2 _ (.inr (.inr xl))) (fun b hb => .inl hb) (fun b => ⟨.inl,fun h => by rcases h with h | h; exact h; omega⟩)
  have hH0 : (ibFam P l N KB ιs xso ZsO ZbO J Jx c).H (some go) ⟨w2,fun b => zone C1 (Hb e x) ι2 w1 false b,fun b => zone C1 (Hb e x) ι2 w1 true b,ownedBy (Hb e x) ι2,fun b => Io b ∨ (W.heap.size ≤ b ∧ b < w1.heap.size)⟩ := by
    refine ⟨?_,oi1,fun b hb => ?_,zf1,zt1,fun β b hb => ?_,fun b hb => ?_,fun b hb => ?_,fun b hb => ?_,fun b hb => rfl,Kept.refl _ _⟩
    · obtain ⟨pre',e2,hj⟩ := hp
      exact ⟨pre',e2,hw1 _ (hJ pre') hj⟩
    · show b < w2.heap.size
      rcases hb with hb | hb
      · have := h6 b hb; omega
      · omega
    · rcases hb with hb | hb | hb
      · rcases hZi β b hb with q | q | q
        · exact .inl q
        · exact .inr (.inl q)
        · exact .inr (.inr (.inl q))
      · rcases h7 β b hb with q | q | q
        · exact .inl q
        · exact .inr (.inl q)
        · exact .inr (.inr (.inl q))
      · rcases zone_at hb with ⟨e2,h⟩ | h
        · rcases h4 b h with q | q | q
          · exact .inr (.inl ⟨e2,q⟩)
          · exact .inl q
          · exact .inr (.inr (.inl q))
        · rcases h3 b h with q | q
          · exact .inl q
          · exact .inr (.inr (.inl q))
    · rcases o12 b hb with h | h
      · exact ⟨fun hi => by have := hIlt b hi; omega,fun hX => by have := xW b hX; omega,fun β hz => by have := (zAll β b hz).1; omega⟩
      · obtain ⟨q1,q2,q3,q4,q5⟩ := h1 b h
        exact ⟨q1,q3,fun β hz => (zAll β b hz).2.2.2 h⟩
    · exact zone_keep (C := C1) r4.core (zE _ b hb).1 (zE _ b hb).2.2.2 (by
        rcases zone_at hb with ⟨e0,h⟩ | h
        · cases e0
        · exact .inr (.inl h))
    · exact .inl (zone_keep (C := C1) r4.core (zE _ b hb).1 (zE _ b hb).2.2.2 (by
        rcases zone_at hb with ⟨e0,h⟩ | h
        · exact .inl ⟨rfl,.inl h⟩
        · exact .inr (.inl h)))
  have hb := hB.body c hc (rangeL step rest0 k) x e go hx _ ι2 ⟨a1.tmps,[]⟩ w2 hH0 r5
  refine wpIn_mono hb ?_
  rintro e3 a3 w3 ⟨g3,s3,d3,ι3',hH3,r6,x',hvc3,hend⟩
  obtain ⟨ι3,r7⟩ := hvc3 d3 ι3' a3 w3 r6
  have hn := IbH.now hH3 hc hJ hJx r7
  have sz3 : w2.heap.size ≤ w3.heap.size := hn.keptZ.size
  have hl3 : w3.heap[l]? = some (.loop { recOf fn tm ps assign body D .ready none with state := .busy }) := (hn.keptI l (.inr xl)).trans hl2
  have hD3 : w3.heap[D]? = some (.deferred (some [])) := (hn.keptI D (.inr xD)).trans ((ob2 D (fun e => lD e.symm)).trans hD1)
  have fin : ∀ (st : LoopState) (pe : Option Code),Kept (fun b => O b ∨ Z false b ∨ Z true b) W (w3.putObj l (.loop (recOf fn tm ps assign body D st pe))) ∧
      RgJI P N KB ιs env tm (Hp x') xso ZsO ZbO J Jx z0 X ms l D (recOf fn tm ps assign body D st pe) g3 O I (w3.putObj l (.loop (recOf fn tm ps assign body D st pe))) := by
    intro st pe
    have kp : ∀ B,Kept B w3 (w3.putObj l (.loop (recOf fn tm ps assign body D st pe))) := fun B => Kept.putObj hl3 rfl
    have sz4 : (w3.putObj l (.loop (recOf fn tm ps assign body D st pe))).heap.size = w3.heap.size := by simp
    have hl4 : (w3.putObj l (.loop (recOf fn tm ps assign body D st pe))).heap[l]? = some (.loop (recOf fn tm ps assign body D st pe)) := World.putObj_heap_same (Array.getElem?_eq_some_iff.1 hl3).1
    have ob4 : ∀ b,b ≠ l → (w3.putObj l (.loop (recOf fn tm ps assign body D st pe))).heap[b]? = w3.heap[b]? := fun b hb => World.putObj_heap_other hb
    have tp4 : ∀ T : Nat → Prop,T l → Trans T w3 (w3.putObj l (.loop (recOf fn tm ps assign body D st pe))) := fun T hT => Trans.putIn hl3 rfl hT
    have r8 := r7.anew none (dfr := []) (tm := a3.tmps) rfl (kp _)
    generalize w3.putObj l (.loop (recOf fn tm ps assign body D st pe)) = w4 at kp sz4 hl4 ob4 tp4 r8 ⊢
    have kZ : Kept (fun b => O b ∨ ∃ β,Z β b ∨ z0 β b ∨ zone ⟨P,none,N,[],W,Zs,Zb,ownedBy (Hp x) ι,KB,ιs⟩ (Hp x) ι W β b) W w4 := by
      have k1 : Kept (fun b => O b ∨ ∃ β,Z β b ∨ z0 β b ∨ zone ⟨P,none,N,[],W,Zs,Zb,ownedBy (Hp x) ι,KB,ιs⟩ (Hp x) ι W β b) W w1 := tr1.kept fun b _ hb ho => by
        rcases hb with hb | ⟨β,hb⟩
        · exact (h1 b ho).2.1 hb
        · exact (zAll β b hb).2.2.2 ho
      have k3 : Kept (fun b => O b ∨ ∃ β,Z β b ∨ z0 β b ∨ zone ⟨P,none,N,[],W,Zs,Zb,ownedBy (Hp x) ι,KB,ιs⟩ (Hp x) ι W β b) w2 w3 := ⟨hn.keptZ.size,fun q cc ty n hb hq => by
        rcases hb with hb | ⟨β,hb⟩
        · exact hn.keptI q (.inl (hOI q hb))
        · exact hn.keptZ.block q cc ty n (by cases β with | true => exact .inr hb | false => exact .inl hb) hq,hn.keptZ.bsz⟩
      exact ((k1.trans (kp1 _)).trans k3).trans (kp _)
    have nZ : ∀ b,ownedBy (Hp x') ι3 b → ∀ β,¬ (Z β b ∨ z0 β b ∨ zone ⟨P,none,N,[],W,Zs,Zb,ownedBy (Hp x) ι,KB,ιs⟩ (Hp x) ι W β b) := fun b hb β => (hn.dis b hb).2.2 β
    have shr : ∀ (K : (Nat → Prop) → (Nat → Prop) → World → Prop),Abide K → K (fun b => ownedBy (Hp x') ι3 b ∨ O b ∨ X b) (fun b => d3.I b ∨ (d3.w0.heap.size ≤ b ∧ b < w3.heap.size)) w3 → K (fun b => ownedBy (Hp x') ι3 b ∨ O b ∨ X b) (fun b => d3.I b ∨ (d3.w0.heap.size ≤ b ∧ b < w3.heap.size)) w4 := fun K hK h =>
      hK _ _ _ _ _ _ h (tp4 _ (.inr (.inr xl))) (fun b hb => .inl hb) (fun b => ⟨.inl,fun h => by rcases h with h | h; exact h; omega⟩)
    refine ⟨kZ.sub fun b hb => by
      rcases hb with hb | hb | hb
      · exact .inl hb
      · exact .inr ⟨_,.inl hb⟩
      · exact .inr ⟨_,.inl hb⟩,⟨⟨ι3,_,_,fun b => d3.I b ∨ (d3.w0.heap.size ≤ b ∧ b < w3.heap.size),⟨r0.size,rfl,fun d v hl => ?_,r8.core,r8.stab⟩,fun b hb => ?_,fun b hb => ?_,fun b hb => (hn.zs b hb).2.2,fun b hb => (hn.zb b hb).2.2,fun b hb => hn.own b (.inr hb),fun b hb => by rw [sz4]; exact hn.lt b hb,fun β b hb => hn.zi β b (.inr (.inl hb)),?_⟩,hI.xI,hI.lX,fun β b hb => ?_,hl4,(ob4 D (fun e => lD e.symm)).trans hD3,fun B hB => ?_⟩⟩
    · refine (r0.env d v hl).mono kZ.bsz _ _ (fun β b hz => ?_) (fun β b o u hz hu => kZ.cell (.inr ⟨β,.inr (.inr hz)⟩) hu) (fun t b hf et => ?_)
      · have hlt := (zE β b hz).1
        refine ⟨by rw [sz4]; omega,fun t ht et => nZ b ⟨t,ht,et⟩ β (.inr (.inr hz)),?_⟩
        cases β with
        | true =>
          rcases hn.ezb b hz with q | q
          · exact .inl ⟨rfl,q⟩
          · exact .inr (.inl q)
        | false => exact .inr (.inl (hn.ezs b hz))
      · have ht := htag d v hl t hf
        have e1 := r0.stab t ht
        have e2 := r7.stab t ht
        show ι3 t = some b
        rw [e2]
        rw [e1] at et
        exact et
    · obtain ⟨q1,q2,q3⟩ := hn.dis b hb
      exact ⟨q1,fun ho => q1 (hOI b ho),q2,hn.own b (.inl hb),fun β hz => q3 β (.inr (.inl hz))⟩
    · rcases hb with hb | hb
      · obtain ⟨q1,q2,_⟩ := hn.zs b hb
        exact ⟨by rw [sz4]; exact hb.1,q1,q2⟩
      · obtain ⟨q1,q2,_⟩ := hn.zb b hb
        exact ⟨by rw [sz4]; exact hb.1,q1,q2⟩
    · have hp3 := hn.past
      cases g3 with
      | none => exact shr _ hJx hp3
      | some rest3 =>
        obtain ⟨pre3,e4,hj3⟩ := hp3
        exact ⟨pre3,e4,shr _ (hJ pre3) hj3⟩
    · obtain ⟨q1,q2,q3⟩ := hI.z0O β b hb
      exact ⟨by rw [sz4]; omega,q2,q3⟩
    · obtain ⟨q1,q2,q3⟩ := hI.marks B hB
      refine ⟨?_,q2,q3⟩
      rw [ob4 B q3,hn.keptI B (.inr q2)]
      show w2.heap[B]? = _
      rw [ob2 B q3,keepW B (xW B q2) (nX B q2)]
      exact q1
  rcases hend with ⟨rfl,rest',rfl,hnx⟩ | ⟨he3,hM⟩
  · obtain ⟨k1,k2⟩ := fin .ready none
    exact ⟨_,_,run_endRound none hl3,k1,.inl ⟨rfl,x',rest0,rest',by rw [exs]; simp,hnx,k2⟩⟩
  · rcases he3 with rfl | ⟨id,rfl⟩
    · obtain ⟨k1,k2⟩ := fin .done (some .ret)
      exact ⟨_,_,run_endRound (some .ret) hl3,k1,.inr ⟨rfl,x',.ret,.ret,g3,.inl ⟨rfl,rfl⟩,hM,k2⟩⟩
    · obtain ⟨k1,k2⟩ := fin .done (some (.exit id))
      exact ⟨_,_,run_endRound (some (.exit id)) hl3,k1,.inr ⟨rfl,x',.exit id,.exit id,g3,.inr ⟨id,rfl,rfl⟩,hM,k2⟩⟩
end
structure IyD where
  ms : List Nat
  w0 : World
  Zs : Nat → Prop
  Zb : Nat → Prop
  T0 : Nat → Prop
  I : Nat → Prop
  X : Nat → Prop
structure IyH {E : Type} (xs : List E) (Zs Zb : Nat → Prop) (J : List E → (Nat → Prop) → (Nat → Prop) → World → Prop) (Jx : (Nat → Prop) → (Nat → Prop) → World → Prop) (g : Option (List E)) (d : IyD) : Prop where
  past : match g with
    | some rest => ∃ pre,xs = pre ++ rest ∧ J pre (fun b => d.T0 b ∨ d.X b) d.I d.w0
    | none => Jx (fun b => d.T0 b ∨ d.X b) d.I d.w0
  own : ∀ b,d.T0 b ∨ d.X b → d.I b
  lt : ∀ b,d.I b → b < d.w0.heap.size
  zs : ∀ b,d.Zs b → ¬ d.X b ∧ (Zs b ∨ d.I b)
  zb : ∀ b,d.Zb b → ¬ d.X b ∧ (Zb b ∨ Zs b ∨ d.I b)
  dis : ∀ b,d.T0 b → ¬ d.X b
  marks : ∀ B,B ∈ d.ms → d.w0.heap[B]? = some (.deferred (some [])) ∧ d.X B
  nodup : d.ms.Nodup
def iyFam {E : Type} (P : Program) (N : Nat) (ι0 : Tags) (xs : List E) (Zs Zb : Nat → Prop) (J : List E → (Nat → Prop) → (Nat → Prop) → World → Prop) (Jx : (Nat → Prop) → (Nat → Prop) → World → Prop) : Fam (Option (List E)) where
  D := IyD
  P := P
  r := none
  cx d := ⟨P,none,N,d.ms.map markOf,d.w0,d.Zs,d.Zb,d.T0,[],ι0⟩
  H g d := IyH xs Zs Zb J Jx g d
  hP _ := rfl
  hr _ := rfl
section
variable {E : Type} {P : Program} {N : Nat} {ι0 : Tags} {xs : List E} {Zs Zb : Nat → Prop} {J : List E → (Nat → Prop) → (Nat → Prop) → World → Prop} {Jx : (Nat → Prop) → (Nat → Prop) → World → Prop}
theorem IyH.now {g : Option (List E)} {d : IyD} (h : IyH xs Zs Zb J Jx g d) (hJ : ∀ pre,Abide (J pre)) (hJx : Abide Jx) {s : St} {ι : Tags} {a : Act} {w : World} (r : Rel ((iyFam P N ι0 xs Zs Zb J Jx).cx d) s ι a w) :
    IyH xs Zs Zb J Jx g ⟨d.ms,w,fun b => zone ((iyFam P N ι0 xs Zs Zb J Jx).cx d) s.heap ι w false b,fun b => zone ((iyFam P N ι0 xs Zs Zb J Jx).cx d) s.heap ι w true b,ownedBy s.heap ι,fun b => d.I b ∨ (d.w0.heap.size ≤ b ∧ b < w.heap.size),d.X⟩ := by
  have hO : ∀ b,ownedBy s.heap ι b → d.T0 b ∨ d.w0.heap.size ≤ b := by
    rintro b ⟨t,ht,e⟩
    exact (r.core.own t b ht e).symm
  have hOlt : ∀ b,ownedBy s.heap ι b → b < w.heap.size := fun b hb => r.core.lt hb
  have tr : Trans d.T0 d.w0 w := r.core.tr
  have sz : d.w0.heap.size ≤ w.heap.size := tr.size
  have xlt : ∀ b,d.X b → b < d.w0.heap.size := fun b hb => h.lt b (h.own b (.inr hb))
  have hOX : ∀ b,ownedBy s.heap ι b ∨ d.X b → (d.T0 b ∨ d.X b) ∨ d.w0.heap.size ≤ b := fun b hb => by
    rcases hb with hb | hb
    · rcases hO b hb with h1 | h1
      · exact .inl (.inl h1)
      · exact .inr h1
    · exact .inl (.inr hb)
  have zf : ∀ b,zone ((iyFam P N ι0 xs Zs Zb J Jx).cx d) s.heap ι w false b → ¬ d.X b ∧ (Zs b ∨ d.I b ∨ (d.w0.heap.size ≤ b ∧ b < w.heap.size)) := by
    intro b hb
    obtain ⟨z1,_,z3⟩ := hb
    rcases z3 with ⟨h1,_⟩ | h1 | h1 | h1
    · cases h1
    · obtain ⟨q2,q3⟩ := h.zs b h1
      refine ⟨q2,?_⟩
      rcases q3 with q | q
      · exact .inl q
      · exact .inr (.inl q)
    · have h1 : d.w0.heap.size ≤ b := h1
      exact ⟨fun ho => by have := xlt b ho; omega,.inr (.inr ⟨h1,z1⟩)⟩
    · exact ⟨h.dis b h1,.inr (.inl (h.own b (.inl h1)))⟩
  refine ⟨?_,fun b hb => ?_,fun b hb => ?_,zf,fun b hb => ?_,fun b hb => ?_,fun B hB => ?_,h.nodup⟩
  · have hp := h.past
    cases g with
    | none => exact hJx _ _ _ _ _ _ hp (tr.wide fun b hb => .inl hb) hOX (fun b => Iff.rfl)
    | some rest =>
      obtain ⟨pre,e,hj⟩ := hp
      exact ⟨pre,e,hJ pre _ _ _ _ _ _ hj (tr.wide fun b hb => .inl hb) hOX (fun b => Iff.rfl)⟩
  · rcases hb with hb | hb
    · rcases hO b hb with h1 | h1
      · exact .inl (h.own b (.inl h1))
      · exact .inr ⟨h1,hOlt b hb⟩
    · exact .inl (h.own b (.inr hb))
  · rcases hb with hb | hb
    · exact Nat.lt_of_lt_of_le (h.lt b hb) sz
    · exact hb.2
  · obtain ⟨z1,z2,z3⟩ := hb
    rcases z3 with ⟨_,h1⟩ | h1
    · obtain ⟨q2,q3⟩ := h.zb b h1
      refine ⟨q2,?_⟩
      rcases q3 with q | q | q
      · exact .inl q
      · exact .inr (.inl q)
      · exact .inr (.inr (.inl q))
    · obtain ⟨q2,q3⟩ := zf b ⟨z1,z2,.inr h1⟩
      exact ⟨q2,.inr q3⟩
  · rcases hO b hb with h1 | h1
    · exact h.dis b h1
    · exact fun hx => by have := xlt b hx; omega
  · obtain ⟨m1,m2⟩ := h.marks B hB
    refine ⟨?_,m2⟩
    have := tr.block B (Array.getElem?_eq_some_iff.1 m1).1 (fun ht => h.dis B ht m2)
    exact this.trans m1
end
section
variable {P : Program} {N : Nat} {ι0 : Tags}
theorem AWPF.rangeI {σx E Eo : Type} {xso : List Eo} {ZsO ZbO : Nat → Prop} {J : List Eo → (Nat → Prop) → (Nat → Prop) → World → Prop} {Jx : (Nat → Prop) → (Nat → Prop) → World → Prop} (hJ : ∀ pre,Abide (J pre)) (hJx : Abide Jx) {go : List Eo} {Q : Exit → Option (List Eo) → St → Prop} {s : St} {g : Operand} {ps : Array Nat} {assign body : Code} {f : FuncId} {avs cs : List AV} {H : List (Nat × Blk)} {vals : E → List AV} {xs : List E} {σ : Nat → Nat}
    {Hp : σx → List (Nat × Blk)} {Hb : E → σx → List (Nat × Blk)} {step : (σx → Option (List Eo)) → E → σx → Option (List Eo)} {k : σx → Option (List Eo)} {env : List (Nat × AV)} {x0 : σx} {KB : List Nat} {envb : E → σx → List (Nat × AV)} {M : Exit → σx → Option (List Eo) → Prop}
    (hS : ItSpec P f avs H vals xs) (hg : ∀ d,Ev ((iyFam P N ι0 xso ZsO ZbO J Jx).cx d) s g (.clo (.func f) [] cs)) (hcs : ∀ d,CvL ((iyFam P N ι0 xso ZsO ZbO J Jx).cx d) s σ H false cs avs)
    (hH : ∀ t k,look t H = some k → look (σ t) s.heap = some (renB σ k)) (hinj : ∀ a b,a ∈ dom H → b ∈ dom H → σ a = σ b → a = b)
    (hHp : ∀ t kk,look t (Hp x0) = some kk → look t s.heap = some kk) (hdis : ∀ t,has t (Hp x0) → t ∉ (dom H).map σ)
    (henv : ∀ t v,look t env = some v → look t s.env = some v) (htag : ∀ t v,look t env = some v → ∀ t',AV.free t' v = false → t' ∈ KB)
    (hx : rangeL step xs k x0 = some go) (hB : ∀ l ιs,BodyOkI P N l KB ιs env xso ZsO ZbO J Jx Hp Hb step vals ps assign body envb M)
    (hk : ∀ x rest,k x = some rest → Q .normal (some rest) ⟨env,Hp x⟩) (hstop : ∀ e x g,M e x g → Q e g ⟨env,Hp x⟩) :
    AWPF (iyFam P N ι0 xso ZsO ZbO J Jx) (.rangeFunc g ps assign body) Q (some go) s := by
  intro d ι a w hR rel
  obtain ⟨hable,hspec⟩ := hS
  have hHas : ∀ t,has t H → has (σ t) s.heap := fun t ⟨k,hk⟩ => ⟨_,hH t k hk⟩
  have hv := hg d ι a w rel
  generalize hge : a.eval g = ge at hv
  cases hv with
  | clo _ _ _ _ _ u1 v1 hu hl q1 q2 =>
  have hu1 : u1 = [] := List.eq_nil_of_length_eq_zero (by simpa using hu)
  subst hu1
  have hvrs := (hcs d).vrs hHas rel [] hl q2
  refine wpIn_rangeFunc fun fn _ => ?_
  obtain ⟨W1,hW1⟩ : ∃ W1,(w.alloc (.deferred (some []))).alloc (.loop (recOf fn a.tmps ps assign body w.heap.size .ready none)) = W1 := ⟨_,rfl⟩
  have hL1 : W1.heap[w.heap.size + 1]? = some (.loop (recOf fn a.tmps ps assign body w.heap.size .ready none)) := by
    rw [← hW1]; have := World.alloc_heap_new (w.alloc (.deferred (some []))) (.loop (recOf fn a.tmps ps assign body w.heap.size .ready none)); rwa [World.size_alloc] at this
  have hD1 : W1.heap[w.heap.size]? = some (.deferred (some [])) := by
    rw [← hW1]; exact (RowKit.Below.heap_alloc _ _ _ (by simp)).trans (World.alloc_heap_new w _)
  have kp1 : ∀ B,Kept B w W1 := fun B => by rw [← hW1]; exact (Kept.alloc w _).trans (Kept.alloc _ _)
  have tr1 : Trans (fun b => ownedBy s.heap ι b) w W1 := by rw [← hW1]; exact ((Trans.refl _ w).alloc _).alloc _
  have sz1 : w.heap.size ≤ W1.heap.size := tr1.size
  have hen : (Instr.enterLoop fn a.tmps ps assign body none).run P w = .ok (w.heap.size + 1,[markOf w.heap.size]) W1 := by
    rw [← hW1]; exact run_enterLoop_outer _ _ _ _ _
  have hcore := callee_core rel hH hinj (kp1 _) none []
  have howlt : ∀ b,ownedBy s.heap ι b → b < w.heap.size := fun b hb => rel.core.lt hb
  have hOs : ∀ b,ownedBy H (fun t => ι (σ t)) b → ownedBy s.heap ι b := fun b ⟨t,ht,e⟩ => ⟨σ t,hHas t ht,e⟩
  have hvr1 : VRs W1 (zone ⟨P,none,N,[],W1,fun b => zone ((iyFam P N ι0 xso ZsO ZbO J Jx).cx d) s.heap ι w false b,fun b => zone ((iyFam P N ι0 xso ZsO ZbO J Jx).cx d) s.heap ι w true b,ownedBy H (fun t => ι (σ t)),[],fun t => ι (σ t)⟩ H (fun t => ι (σ t)) W1) (fun t => ι (σ t)) avs v1 := by
    refine ⟨hvrs.1,fun i hi => ?_⟩
    obtain ⟨u,hu,hvv⟩ := hvrs.2 i hi
    refine ⟨u,hu,hvv.mono (kp1 (fun _ => True)).bsz _ _ (fun β b hz => ?_) (fun β b o u hz hu => (kp1 (fun _ => True)).cell trivial hu) (fun _ _ _ h => h)⟩
    refine ⟨Nat.lt_of_lt_of_le hz.1 sz1,hz.2.1,?_⟩
    rcases hz.2.2 with ⟨e0,h | ⟨h,_⟩⟩ | h | h | h
    · exact .inl ⟨e0,h⟩
    · cases h
    · exact .inr (.inl h)
    · exact absurd hz.1 (Nat.not_lt.2 h)
    · exact .inr (.inr (.inr h))
  have rP := rel.part none (dfr := []) (tm := a.tmps) rfl henv hHp (KB := KB) (ι0 := ι) (fun _ _ => rfl) (kp1 _)
  have hz0 : ∀ β b,zone ((iyFam P N ι0 xso ZsO ZbO J Jx).cx d) s.heap ι w β b → ¬ ownedBy s.heap ι b ∧ b < w.heap.size := fun β b hz => ⟨fun ⟨t,ht,e⟩ => hz.2.1 t ht e,hz.1⟩
  have hn := IyH.now hR hJ hJx rel
  have hround := RgJI.round (P := P) (N := N) (KB := KB) (ιs := ι) (env := env) (tm := a.tmps) (ZsO := ZsO) (ZbO := ZbO) (Jx := Jx) (z0 := zone ((iyFam P N ι0 xso ZsO ZbO J Jx).cx d) s.heap ι w) (X := fun b => d.X b ∨ b = w.heap.size ∨ b = w.heap.size + 1) (ms := d.ms) (l := w.heap.size + 1) (D := w.heap.size)
    (xso := xso) (J := J) (Hp := Hp) (Hb := Hb) (step := step) (k := k) (vals := vals) (ps := ps) (assign := assign) (body := body) (envb := envb) (M := M) (fn := fn) (xs := xs) hJ hJx htag (hB _ _)
  have szW : W1.heap.size = w.heap.size + 2 := by rw [← hW1]; simp
  have xw : ∀ b,d.X b → b < w.heap.size := fun b hb => hn.lt b (hn.own b (.inr hb))
  have noX : ∀ b,b < w.heap.size → ¬ d.X b → ¬ (d.X b ∨ b = w.heap.size ∨ b = w.heap.size + 1) := fun b hb hn h => by
    rcases h with h | h | h
    · exact hn h
    · omega
    · omega
  have zX : ∀ β b,zone ((iyFam P N ι0 xso ZsO ZbO J Jx).cx d) s.heap ι w β b → ¬ d.X b := fun β b hz => by
    cases β with
    | true => exact (hn.zb b hz).1
    | false => exact (hn.zs b hz).1
  have hH1 : ∀ b,ownedBy H (fun t => ι (σ t)) b → ¬ d.X b := fun b hb => hn.dis b (hOs b hb)
  have hJ0 : RgJI P N KB ι env a.tmps (Hp x0) xso ZsO ZbO J Jx (zone ((iyFam P N ι0 xso ZsO ZbO J Jx).cx d) s.heap ι w) (fun b => d.X b ∨ b = w.heap.size ∨ b = w.heap.size + 1) d.ms (w.heap.size + 1) w.heap.size (recOf fn a.tmps ps assign body w.heap.size .ready none) (some go) (ownedBy H (fun t => ι (σ t))) (ownedBy H (fun t => ι (σ t))) W1 := by
    have hsO : ∀ b,ownedBy (Hp x0) ι b → ownedBy s.heap ι b := fun b ⟨t,⟨kk,ht⟩,e⟩ => ⟨t,⟨kk,hHp t kk ht⟩,e⟩
    have hdj : ∀ b,ownedBy (Hp x0) ι b → ¬ ownedBy H (fun t => ι (σ t)) b := by
      rintro b ⟨t,⟨kk,ht⟩,e⟩ ⟨t',ht',e'⟩
      have := rel.core.inj t (σ t') b ⟨kk,hHp t kk ht⟩ (hHas t' ht') e e'
      exact hdis t ⟨kk,ht⟩ (this ▸ List.mem_map_of_mem (has_dom.1 ht'))
    refine ⟨⟨ι,_,_,fun b => (d.I b ∨ (d.w0.heap.size ≤ b ∧ b < w.heap.size)) ∨ (w.heap.size ≤ b ∧ b < W1.heap.size),rP,fun b hb => ?_,fun b hb => ?_,fun b hb => ?_,fun b hb => ?_,fun b hb => ?_,fun b hb => ?_,fun β b hb => ?_,?_⟩,fun b hb => ?_,⟨.inr (.inr rfl),.inr (.inl rfl),by omega⟩,fun β b hb => ?_,hL1,hD1,fun B hB => ?_⟩
    · have ho := hsO b hb
      exact ⟨hdj b hb,hdj b hb,noX b (howlt b ho) (hn.dis b ho),.inl (hn.own b (.inl ho)),fun β hz => (hz0 β b hz).1 ho⟩
    · rcases hb with hb | hb
      · exact ⟨by have := hb.1; omega,fun ho => (hz0 _ b hb).1 (hOs b ho),noX b hb.1 (zX _ b hb)⟩
      · exact ⟨by have := hb.1; omega,fun ho => (hz0 _ b hb).1 (hOs b ho),noX b hb.1 (zX _ b hb)⟩
    · rcases (hn.zs b hb).2 with q | q
      · exact .inl q
      · exact .inr (.inl q)
    · rcases (hn.zb b hb).2 with q | q | q
      · exact .inl q
      · exact .inr (.inl q)
      · exact .inr (.inr (.inl q))
    · rcases hb with hb | hb | hb | hb
      · exact .inl (hn.own b (.inl (hOs b hb)))
      · exact .inl (hn.own b (.inr hb))
      · exact .inr ⟨by omega,by omega⟩
      · exact .inr ⟨by omega,by omega⟩
    · rcases hb with hb | hb
      · have h : b < w.heap.size := hn.lt b hb
        omega
      · exact hb.2
    · cases β with
      | false =>
        rcases (hn.zs b hb).2 with q | q
        · exact .inl q
        · exact .inr (.inr (.inl q))
      | true =>
        rcases (hn.zb b hb).2 with q | q | q
        · exact .inr (.inl ⟨rfl,q⟩)
        · exact .inl q
        · exact .inr (.inr (.inl q))
    · obtain ⟨pre,e1,hj⟩ := hn.past
      exact ⟨pre,e1,hJ pre _ _ _ _ _ _ hj (tr1.wide fun b hb => .inl hb) (fun b hb => by
        rcases hb with hb | hb | hb | hb | hb
        · exact .inl (.inl (hsO b hb))
        · exact .inl (.inl (hOs b hb))
        · exact .inl (.inr hb)
        · exact .inr (by show w.heap.size ≤ b; omega)
        · exact .inr (by show w.heap.size ≤ b; omega)) (fun b => Iff.rfl)⟩
    · have : ¬ ownedBy H (fun t => ι (σ t)) b := fun ho => by
        rcases hb with hb | hb | hb
        · exact hH1 b ho hb
        · have := howlt _ (hOs _ ho); omega
        · have := howlt _ (hOs _ ho); omega
      exact ⟨this,this⟩
    · exact ⟨by have := hb.1; omega,fun ho => (hz0 _ b hb).1 (hOs b ho),noX b hb.1 (zX _ b hb)⟩
    · obtain ⟨m1,m2⟩ := hn.marks B hB
      have hlt := xw B m2
      exact ⟨(tr1.block B hlt (fun ho => hn.dis B ho m2)).trans m1,.inl m2,by omega⟩
  have hcall := hspec _ _ (fun t => ι (σ t)) W1 v1 N [] none hcore hvr1 (w.heap.size + 1) _ _ (fun pre => ?_) ?_ hround ⟨x0,xs,go,rfl,hx,hJ0⟩
  · refine ⟨w.heap.size + 1,[markOf w.heap.size],W1,{ target := .fn (.func f) v1.toArray,args := #[.func (.yield (w.heap.size + 1)) #[] #[]] },W1,f,#[.func (.yield (w.heap.size + 1)) #[] #[]] ++ v1.toArray,W1,hen,?_,fun _ _ => trivial,?_,(fun h => by cases h),?_⟩
    · simp only [resolve,hge]
      simp [go_sem]
    · simp only [invoke]
      exact run_callFunc hable
    · have earr : (#[Value.func (.yield (w.heap.size + 1)) #[] #[]] ++ v1.toArray : Array Value) = (Value.func (.yield (w.heap.size + 1)) #[] #[] :: v1).toArray := by simp
      rw [earr]
      refine CallsIn.mono hcall ?_
      rintro e W2 ⟨⟨v,rfl⟩,O',I',hend⟩
      -- the state behind the loop
      have fin : ∀ (x : σx) (st : LoopState) (pe : Option Code) (g3 : Option (List Eo)),RgJI P N KB ι env a.tmps (Hp x) xso ZsO ZbO J Jx (zone ((iyFam P N ι0 xso ZsO ZbO J Jx).cx d) s.heap ι w) (fun b => d.X b ∨ b = w.heap.size ∨ b = w.heap.size + 1) d.ms (w.heap.size + 1) w.heap.size (recOf fn a.tmps ps assign body w.heap.size st pe) g3 O' I' W2 →
          ∀ o,∃ d' ι',(iyFam P N ι0 xso ZsO ZbO J Jx).H g3 d' ∧ Rel ((iyFam P N ι0 xso ZsO ZbO J Jx).cx d') ⟨env,Hp x⟩ ι' { a with defers := [markOf w.heap.size] ++ a.defers } (W2.putObj (w.heap.size + 1) (.loop o)) := by
        intro x st pe g3 hI o
        obtain ⟨ι1,Zs,Zb,Io,r1,h1,h2,h3,h4,h5,h6,h7,hp⟩ := hI.st
        have kp : ∀ B,Kept B W2 (W2.putObj (w.heap.size + 1) (.loop o)) := fun B => Kept.putObj hI.rc rfl
        have tp : ∀ T : Nat → Prop,T (w.heap.size + 1) → Trans T W2 (W2.putObj (w.heap.size + 1) (.loop o)) := fun T hT => Trans.putIn hI.rc rfl hT
        have r2 := r1.part none (dfr := (w.heap.size :: d.ms).map markOf) (tm := a.tmps) rfl (fun _ _ h => h) (fun _ _ h => h) (KB := []) (ι0 := ι0) (fun _ h => by cases h) (kp _)
        have shr : ∀ (K : (Nat → Prop) → (Nat → Prop) → World → Prop),Abide K → K (fun b => ownedBy (Hp x) ι1 b ∨ O' b ∨ (d.X b ∨ b = w.heap.size ∨ b = w.heap.size + 1)) Io W2 → K (fun b => ownedBy (Hp x) ι1 b ∨ (d.X b ∨ b = w.heap.size ∨ b = w.heap.size + 1)) Io (W2.putObj (w.heap.size + 1) (.loop o)) := fun K hK h =>
          hK _ _ _ _ _ _ h (tp _ (.inr (.inr (.inr (.inr rfl))))) (fun b hb => .inl (by
            rcases hb with hb | hb
            · exact .inl hb
            · exact .inr (.inr hb))) (fun b => ⟨.inl,fun h => by
            rcases h with h | h
            · exact h
            · have : (W2.putObj (w.heap.size + 1) (.loop o)).heap.size = W2.heap.size := by simp
              omega⟩)
        have szp : (W2.putObj (w.heap.size + 1) (.loop o)).heap.size = W2.heap.size := by simp
        refine ⟨⟨w.heap.size :: d.ms,W2.putObj (w.heap.size + 1) (.loop o),fun b => zone ⟨P,none,N,[],W2,Zs,Zb,ownedBy (Hp x) ι1,KB,ι⟩ (Hp x) ι1 W2 false b,fun b => zone ⟨P,none,N,[],W2,Zs,Zb,ownedBy (Hp x) ι1,KB,ι⟩ (Hp x) ι1 W2 true b,ownedBy (Hp x) ι1,Io,fun b => d.X b ∨ b = w.heap.size ∨ b = w.heap.size + 1⟩,ι1,⟨?_,fun b hb => ?_,fun b hb => ?_,fun b hb => ?_,fun b hb => ?_,fun b hb => (h1 b hb).2.2.1,fun B hB => ?_,List.nodup_cons.2 ⟨fun hm => ?_,hR.nodup⟩⟩,?_⟩
        · cases g3 with
          | none => exact shr _ hJx hp
          | some rest3 =>
            obtain ⟨pre3,e4,hj3⟩ := hp
            exact ⟨pre3,e4,shr _ (hJ pre3) hj3⟩
        · rcases hb with hb | hb
          · exact (h1 b hb).2.2.2.1
          · exact h5 b (.inr hb)
        · show b < (W2.putObj (w.heap.size + 1) (.loop o)).heap.size
          rw [szp]; exact h6 b hb
        · rcases zone_at hb with ⟨e0,_⟩ | h
          · cases e0
          · exact ⟨(h2 b (.inl h)).2.2,h3 b h⟩
        · rcases zone_at hb with ⟨_,h⟩ | h
          · exact ⟨(h2 b (.inr h)).2.2,h4 b h⟩
          · exact ⟨(h2 b (.inl h)).2.2,.inr (h3 b h)⟩
        · rcases List.mem_cons.1 hB with rfl | hB
          · exact ⟨(World.putObj_heap_other (by omega)).trans hI.mark,.inr (.inl rfl)⟩
          · obtain ⟨m1,m2,m3⟩ := hI.marks B hB
            exact ⟨(World.putObj_heap_other m3).trans m1,m2⟩
        · have := xw _ (hn.marks _ hm).2
          omega
        · have ed : a.defers = d.ms.map markOf := rel.dfr
          have ea : ({ a with defers := [markOf w.heap.size] ++ a.defers } : Act) = ⟨a.tmps,(w.heap.size :: d.ms).map markOf⟩ := by
            rw [ed]; rfl
          rw [ea]
          exact r2
      rcases hend with ⟨x,rest,go',e1,e2,hI⟩ | ⟨x,e3,c,g3,hc,hM,hI⟩
      · have : rest = [] := List.append_cancel_left (by rw [List.append_nil]; exact e1.symm)
        subst this
        rw [rangeL] at e2
        obtain ⟨d',ι',g1,g2⟩ := fin x _ _ _ hI { recOf fn a.tmps ps assign body w.heap.size .ready none with state := .exhausted }
        refine ⟨none,_,run_endLoop hI.rc (by simp [recOf]),?_⟩
        exact ⟨some go',⟨env,Hp x⟩,d',ι',g1,g2,hk x go' e2⟩
      · obtain ⟨d',ι',g1,g2⟩ := fin x _ _ _ hI { recOf fn a.tmps ps assign body w.heap.size .done (some c) with state := .exhausted }
        refine ⟨some c,_,run_endLoop hI.rc (by simp [recOf]),?_⟩
        rcases hc with ⟨rfl,rfl⟩ | ⟨id,rfl,rfl⟩
        · exact wpIn_ret ⟨g3,⟨env,Hp x⟩,d',ι',g1,g2,hstop _ x g3 hM⟩
        · exact wpIn_exit ⟨g3,⟨env,Hp x⟩,d',ι',g1,g2,hstop _ x g3 hM⟩
  · rintro O O' I I' W W' ⟨x,rest,go',e1,e2,hI⟩ tr hO hI'
    exact ⟨x,rest,go',e1,e2,RgJI.abide hJ hJx _ _ _ _ _ _ hI tr hO hI'⟩
  · rintro O O' I I' W W' ⟨x,e2,c,g3,h1,h2,hI⟩ tr hO hI'
    exact ⟨x,e2,c,g3,h1,h2,RgJI.abide hJ hJx _ _ _ _ _ _ hI tr hO hI'⟩
end
theorem shutX {T : Nat → Prop} : ∀ (ms : List Nat) (w : World),(∀ B,B ∈ ms → w.heap[B]? = some (.deferred (some [])) ∧ T B) → ms.Nodup → Trans T w (shut w ms)
  | [],w,_,_ => Trans.refl _ _
  | B :: ms,w,hm,hn => by
    obtain ⟨hB,hT⟩ := hm B (by simp)
    have hn2 := List.nodup_cons.1 hn
    exact (Trans.putIn hB rfl hT).comp (shutX ms (w.putObj B (.deferred none)) (fun B' hB' => by
      rw [World.putObj_heap_other (fun e => hn2.1 (by subst e; exact hB'))]
      exact hm B' (List.mem_cons_of_mem _ hB')) hn2.2) fun b hb => .inl hb
theorem ItSpecG.ofR {P : Program} {f : FuncId} {fn : Func} {c : Code} {avs : List AV} {H : List (Nat × Blk)} {E : Type} {vals : E → List AV} {Hg : E → List (Nat × Blk)} {xs : List E} {N : Nat} (hf : P.funcs[f]? = some fn) (hnt : fn.ntmps = N) (hb : fn.body = some c)
    (hc : (fn.name == "runtime.NumGoroutine") = false) (hN : avs.length + 1 ≤ N) (hres : ∀ tmps w,∃ v,(results fn tmps).run P w = .ok v w)
    (h : ∀ l ι0 Zs Zb J Jx,(∀ pre,Abide (J pre)) → Abide Jx → RoundOkG P l vals Hg xs Zs Zb J Jx →
      AWPF (iyFam P N ι0 xs Zs Zb J Jx) c (fun e g _ => (e = .ret ∨ e = .normal) ∧ (g = some [] ∨ g = none)) (some xs) ⟨enum 0 (.sc (.func (.yield l) #[] #[]) :: avs),H⟩) : ItSpecG P f avs H vals Hg xs := by
  subst hnt
  refine ⟨⟨fn,hf,by simp [hb],hc⟩,fun Zs Zb ι w vs N dfr ro hcore hvs l J Jx hJ hJx hR h0 => ?_⟩
  obtain ⟨hl,hv⟩ := hvs
  have hw := h l ι Zs Zb J Jx hJ hJx hR ⟨[],w,Zs,Zb,ownedBy H ι,ownedBy H ι,fun _ => False⟩ ι { tmps := (Value.func (.yield l) #[] #[] :: vs).toArray ++ Array.replicate (fn.ntmps - (Value.func (.yield l) #[] #[] :: vs).toArray.size) undef,defers := [] } w
    ⟨⟨[],rfl,hJ [] _ _ _ _ _ _ h0 (Trans.refl _ _) (fun b hb => .inl (hb.elim id False.elim)) (fun b => ⟨.inl,fun h => h.elim id fun h => absurd (Nat.lt_of_le_of_lt h.1 h.2) (Nat.lt_irrefl _)⟩)⟩,fun _ h => h.elim id False.elim,fun b hb => hcore.lt hb,fun _ h => ⟨fun h => h,.inl h⟩,fun _ h => ⟨fun h => h,.inl h⟩,fun _ _ h => h,(fun B hB => by cases hB),List.nodup_nil⟩ ?_
  · refine callsIn_of_wp_marks hf hb trivial (wpIn_mono hw fun e a' w' ⟨g,s',d',ι',hH',r',he,hg⟩ => ?_)
    have hn := IyH.now hH' hJ hJx r'
    have hmk : ∀ B,B ∈ d'.ms → w'.heap[B]? = some (.deferred (some [])) := fun B hB => (hn.marks B hB).1
    obtain ⟨f1,f2,f3⟩ := shut_facts d'.ms w' hmk hn.nodup
    have trX : Trans (fun b => ownedBy s'.heap ι' b ∨ d'.X b) w' (shut w' d'.ms) := shutX d'.ms w' (fun B hB => ⟨hmk B hB,.inr (hn.marks B hB).2⟩) hn.nodup
    obtain ⟨v,hv⟩ := hres a'.tmps (shut w' d'.ms)
    have hfin : ∃ O' I',J xs O' I' (shut w' d'.ms) ∨ Jx O' I' (shut w' d'.ms) := by
      have hp := hn.past
      rcases hg with rfl | rfl
      · obtain ⟨pre,e1,hj⟩ := hp
        rw [List.append_nil] at e1
        subst e1
        exact ⟨_,_,.inl (hJ _ _ _ _ _ _ _ hj trX (fun b hb => .inl hb) (fun b => Iff.rfl))⟩
      · exact ⟨_,_,.inr (hJx _ _ _ _ _ _ hp trX (fun b hb => .inl hb) (fun b => Iff.rfl))⟩
    have key := f3 P fn a'.tmps (fun e w' => (∃ v,e = Ending.returned v) ∧ ∃ O' I',J xs O' I' w' ∨ Jx O' I' w') ⟨v,hv,⟨v,rfl⟩,hfin⟩
    have ed : a'.defers = d'.ms.map markOf := r'.dfr
    rcases he with rfl | rfl
    · show LeavesInM _ _ _ _ _ _ a'.defers _ _
      rw [ed]; exact key
    · show LeavesInM _ _ _ _ _ _ a'.defers _ _
      rw [ed]; exact key
  · refine ⟨by show _ = fn.ntmps; simp [hl]; omega,rfl,?_,⟨hcore.blk,hcore.inj,hcore.own,hcore.tr⟩,fun _ h => by cases h⟩
    intro d v hlk
    rw [look_enum] at hlk
    simp only [Nat.zero_le,if_true,Nat.sub_zero] at hlk
    have hd := (List.getElem?_eq_some_iff.1 hlk).1
    have hall : ∀ i (hi : i < (AV.sc (.func (.yield l) #[] #[]) :: avs).length),∃ u,(Value.func (.yield l) #[] #[] :: vs)[i]? = some u ∧ VR w (zone ⟨P,ro,N,dfr,w,Zs,Zb,ownedBy H ι,[],ι⟩ H ι w) ι ((AV.sc (.func (.yield l) #[] #[]) :: avs)[i]'hi) u := by
      intro i hi
      cases i with
      | zero => exact ⟨_,rfl,.sc _ _ _⟩
      | succ i =>
        obtain ⟨u,h1,h2⟩ := hv i (by simpa using hi)
        exact ⟨u,by simpa using h1,h2⟩
    obtain ⟨u,hu,hvr⟩ := hall d hd
    have he : (AV.sc (.func (.yield l) #[] #[]) :: avs)[d] = v := by rw [List.getElem?_eq_getElem hd] at hlk; exact Option.some.inj hlk
    rw [he] at hvr
    have : ((Value.func (.yield l) #[] #[] :: vs).toArray ++ Array.replicate (fn.ntmps - (Value.func (.yield l) #[] #[] :: vs).toArray.size) undef).getD d undef = u := by
      rw [Array.getD_eq_getD_getElem?,Array.getElem?_append_left (by simp only [List.length_cons] at hd; simp [hl]; omega)]
      simp [hu]
    simp only [this]
    exact hvr
section
variable {E : Type} {P : Program} {l N : Nat} {KB : List Nat} {ι0 : Tags} {xs : List E} {Zs Zb : Nat → Prop} {J : List E → (Nat → Prop) → (Nat → Prop) → World → Prop} {Jx : (Nat → Prop) → (Nat → Prop) → World → Prop} {c : IbC} {A : Array Oper} {ol : List Oper} {s : St}
theorem ARunO.i0 {lo : Nat} {vals : E → List AV} {Bk : E → Blk} (hc : IbOk c) (hJ : ∀ pre,Abide (J pre)) (hJx : Abide Jx) (hR : RoundOkG P lo vals (fun e => [(1,Bk e)]) xs Zs Zb J Jx)
    {dst : Nat} {y : Operand} {args : Array Operand} {ats : Array TypeId} {ty : TypeId} {p : String} {ed : Array Edge} (s2 : St) (T : Nat) {x : E} {rest : List E} {s' : Bool → St} (hd : dst < N)
    (hy : ∀ d,Ev ((ibFam P l N KB ι0 xs Zs Zb J Jx c).cx d) s y (.sc (.func (.yield lo) #[] #[]))) (ha : ∀ d,EvW ((ibFam P l N KB ι0 xs Zs Zb J Jx c).cx d) s args.toList ((vals x).map (AV.ren fun _ => T)))
    (hTB : look T s.heap = some (Bk x)) (hlst : (Bk x).lst = true) (hE2 : SubE s2.env s.env) (hH2 : SubH s2.heap s.heap) (hT2 : anyT (dom s2.heap) T = false)
    (t : ∀ b d,ARun ((ibFam P l N KB ι0 xs Zs Zb J Jx c).cx d) A ol (s2.put dst (.sc (.bool b))) (s' b)) :
    ARunO (ibFam P l N KB ι0 xs Zs Zb J Jx c) A (⟨some dst,.call { callee := .value y,args := args,argTypes := ats },ty,p,ed,none⟩ :: ol) (some (x :: rest)) s (fun b => false = true → b = true) (fun b => (if b = true then some rest else none,s' b)) := by
  refine ARunO.step (sb := fun b => s2.put dst (.sc (.bool b))) (fun d ι a w K Q hH rel hk => ?_) t
  exact yieldStepI hc hJ hJx hR hd hy ha hTB hlst hE2 hH2 (fun h => by
    have := anyT_iff.2 (has_dom.1 h)
    rw [hT2] at this
    cases this) K Q hH rel fun b d' ι' a' w' hH' r' => hk b d' ι' a' w' (fun h => by cases h) hH' r'
end
section
variable {P : Program} {N : Nat} {ι0 : Tags} {w00 : World} {Zs0 Zb0 T00 : Nat → Prop}
theorem AWPF.rangeG3 {σx R E : Type} {r r1 : R} {Q : Exit → Option R → St → Prop} {s : St} {g : Operand} {ps : Array Nat} {assign body : Code} {f : FuncId} {avs cs : List AV} {H : List (Nat × Blk)} {vals : E → List AV} {xs : List E} {σ : Nat → Nat}
    {Hp : σx → List (Nat × Blk)} {Hb : E → σx → List (Nat × Blk)} {step : (σx → Option R) → E → σx → Option R} {k : σx → Option R} {env : List (Nat × AV)} {x0 : σx} {KB : List Nat} {Bk : E → Blk} {T : Nat} {envb : E → σx → List (Nat × AV)} {M : Exit → σx → Prop}
    (hS : ItSpecG P f avs H vals (fun e => [(1,Bk e)]) xs) (hg : ∀ d,Ev ((rgFam P N ι0 r w00 Zs0 Zb0 T00).cx d) s g (.clo (.func f) [] cs)) (hcs : ∀ d,CvL ((rgFam P N ι0 r w00 Zs0 Zb0 T00).cx d) s σ H false cs avs)
    (hH : AllH (fun t k => look (σ t) s.heap = some (renB σ k)) H) (hb : rangeB σ (dom H) (dom (Hp x0)) = true) (hHp : SubH (Hp x0) s.heap) (henv : SubE env s.env) (htag : tagB KB env = true)
    (hx : rangeL step xs k x0 = some r1) (hT : anyT KB T = false) (hfr : ∀ x,newTB T (Hp x) = true) (hlst : ∀ e,(Bk e).lst = true) (hvt : ∀ e v,v ∈ vals e → ∀ t,t ∈ v.tags → t = 1) (hB : ∀ l,BodyOkG P N l KB env Hp Bk T Hb step r1 vals ps assign body envb M)
    (hk : ∀ x,k x = some r1 → Q .normal (some r1) ⟨env,Hp x⟩) (hstop : ∀ e x,M e x → Q e (some r1) ⟨env,Hp x⟩) :
    AWPF (rgFam P N ι0 r w00 Zs0 Zb0 T00) (.rangeFunc g ps assign body) Q (some r1) s := by
  intro d ι a w hR rel
  obtain rfl := Option.some.inj hR.g
  simp only [rangeB,Bool.and_eq_true,List.all_eq_true] at hb
  refine AWPF.rangeG2 hS hg hcs (fun t k hl => hH.at hl) (fun a b ha hb' e => ?_) (fun t kk h => hHp.look h) (fun t ht hm => ?_) (fun t v h => henv.look h) (fun t v h t' hf => ?_) hx (fun h => by rw [anyT_iff.2 h] at hT; cases hT) hfr hlst hvt hB hk hstop d ι a w hR rel
  · have := hb.1 a ha b hb'
    rw [e] at this
    simp only [Nat.beq_refl,Bool.not_true,Bool.false_or,Nat.beq_eq] at this
    exact this
  · have := hb.2 t (has_dom.1 ht)
    rw [anyT_iff.2 hm] at this
    cases this
  · unfold tagB at htag
    rw [List.all_eq_true] at htag
    have h1 := htag (t,v) (mem_of_look h)
    rw [List.all_eq_true] at h1
    exact anyT_iff.1 (h1 t' (AV.tags_of_free hf))
theorem AWPF.rangeI' {σx E Eo : Type} {xso : List Eo} {ZsO ZbO : Nat → Prop} {J : List Eo → (Nat → Prop) → (Nat → Prop) → World → Prop} {Jx : (Nat → Prop) → (Nat → Prop) → World → Prop} (hJ : ∀ pre,Abide (J pre)) (hJx : Abide Jx) {go : List Eo} {Q : Exit → Option (List Eo) → St → Prop} {s : St} {g : Operand} {ps : Array Nat} {assign body : Code} {f : FuncId} {avs cs : List AV} {H : List (Nat × Blk)} {vals : E → List AV} {xs : List E} {σ : Nat → Nat}
    {Hp : σx → List (Nat × Blk)} {Hb : E → σx → List (Nat × Blk)} {step : (σx → Option (List Eo)) → E → σx → Option (List Eo)} {k : σx → Option (List Eo)} {env : List (Nat × AV)} {x0 : σx} {KB : List Nat} {envb : E → σx → List (Nat × AV)} {M : Exit → σx → Option (List Eo) → Prop}
    (hS : ItSpec P f avs H vals xs) (hg : ∀ d,Ev ((iyFam P N ι0 xso ZsO ZbO J Jx).cx d) s g (.clo (.func f) [] cs)) (hcs : ∀ d,CvL ((iyFam P N ι0 xso ZsO ZbO J Jx).cx d) s σ H false cs avs)
    (hH : AllH (fun t k => look (σ t) s.heap = some (renB σ k)) H) (hb : rangeB σ (dom H) (dom (Hp x0)) = true) (hHp : SubH (Hp x0) s.heap) (henv : SubE env s.env) (htag : tagB KB env = true)
    (hx : rangeL step xs k x0 = some go) (hB : ∀ l ιs,BodyOkI P N l KB ιs env xso ZsO ZbO J Jx Hp Hb step vals ps assign body envb M)
    (hk : ∀ x rest,k x = some rest → Q .normal (some rest) ⟨env,Hp x⟩) (hstop : ∀ e x g,M e x g → Q e g ⟨env,Hp x⟩) :
    AWPF (iyFam P N ι0 xso ZsO ZbO J Jx) (.rangeFunc g ps assign body) Q (some go) s := by
  simp only [rangeB,Bool.and_eq_true,List.all_eq_true] at hb
  refine AWPF.rangeI hJ hJx hS hg hcs (fun t k hl => hH.at hl) (fun a b ha hb' e => ?_) (fun t kk h => hHp.look h) (fun t ht hm => ?_) (fun t v h => henv.look h) (fun t v h t' hf => ?_) hx hB hk hstop
  · have := hb.1 a ha b hb'
    rw [e] at this
    simp only [Nat.beq_refl,Bool.not_true,Bool.false_or,Nat.beq_eq] at this
    exact this
  · have := hb.2 t (has_dom.1 ht)
    rw [anyT_iff.2 hm] at this
    cases this
  · unfold tagB at htag
    rw [List.all_eq_true] at htag
    have h1 := htag (t,v) (mem_of_look h)
    rw [List.all_eq_true] at h1
    exact anyT_iff.1 (h1 t' (AV.tags_of_free hf))
end
theorem yldMF {E : Type} {x : E} {m : Option (List E)} {r : List E} (h : yldM false x m = some r) : ∃ q,m = some q ∧ r = x :: q := by
  unfold yldM at h
  cases m with
  | none => cases h
  | some q => exact ⟨q,rfl,(Option.some.inj h).symm⟩
theorem ownT1 {a b c : Nat} {v : AV} {t : Nat} (hv : v ∈ [AV.own 1 a b c]) (ht : t ∈ v.tags) : t = 1 := by
  obtain rfl := List.mem_singleton.1 hv
  simpa [AV.tags] using ht
end Go.AB
