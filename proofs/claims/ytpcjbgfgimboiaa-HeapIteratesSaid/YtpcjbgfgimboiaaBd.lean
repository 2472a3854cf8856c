import Derived.Test.YtpcjbgfgimboiaaBc
import Derived.Laws.IdiomStrings
namespace Go.AB
open Go
def rangeL {σ R E : Type} (step : (σ → Option R) → E → σ → Option R) : List E → (σ → Option R) → σ → Option R
  | [],k => k
  | e :: l,k => step (rangeL step l k) e
theorem zone_keep {C : Ctx} {H : List (Nat × Blk)} {ι : Tags} {w : World} (h : Core C H ι w) {β : Bool} {b : Nat} (hb : b < C.w0.heap.size) (hT : ¬ C.T0 b) (hz : (β = true ∧ C.Zb b) ∨ C.Zs b) : zone C H ι w β b := by
  refine ⟨Nat.lt_of_lt_of_le hb h.tr.size,fun t ht e => ?_,?_⟩
  · rcases h.own t b ht e with h1 | h1
    · omega
    · exact hT h1
  · rcases hz with h1 | h1
    · exact .inl h1
    · exact .inr (.inl h1)
structure RgJ (P : Program) (N : Nat) (KB : List Nat) (ιs : Tags) (env : List (Nat × AV)) (tm : Array Value) (Hx : List (Nat × Blk)) (ws : World) (own0 : Nat → Prop) (z0 : Bool → Nat → Prop) (l D : Nat) (rec : Loop)
    (O I : Nat → Prop) (W : World) : Prop where
  st : ∃ ι Zs Zb,Rel ⟨P,none,N,[],W,Zs,Zb,ownedBy Hx ι,KB,ιs⟩ ⟨env,Hx⟩ ι ⟨tm,[]⟩ W ∧ (∀ b,ownedBy Hx ι b → ¬ I b ∧ ¬ O b ∧ (own0 b ∨ ws.heap.size ≤ b)) ∧ (∀ b,Zs b ∨ Zb b → b < W.heap.size ∧ ¬ O b) ∧
    (∀ b,Zs b → z0 false b ∨ own0 b ∨ ws.heap.size ≤ b) ∧ (∀ b,Zb b → z0 true b ∨ z0 false b ∨ own0 b ∨ ws.heap.size ≤ b)
  rc : W.heap[l]? = some (.loop rec)
  mark : W.heap[D]? = some (.deferred (some []))
  lO : ¬ O l ∧ ¬ O D
  lws : ws.heap.size ≤ l ∧ ws.heap.size ≤ D ∧ l ≠ D
  oo : ∀ b,O b → own0 b ∨ ws.heap.size ≤ b
  oi : ∀ b,I b → own0 b ∨ ws.heap.size ≤ b
  tr : Trans own0 ws W
section
variable {P : Program} {N : Nat} {KB : List Nat} {ιs : Tags} {env : List (Nat × AV)} {tm : Array Value} {Hx : List (Nat × Blk)} {ws : World} {own0 : Nat → Prop} {z0 : Bool → Nat → Prop} {l D : Nat} {rec : Loop}
theorem zone_at {P : Program} {r : Option Nat} {N : Nat} {dfr : List Deferred} {W : World} {Zs Zb : Nat → Prop} {KB : List Nat} {ιs : Tags} {Hx : List (Nat × Blk)} {ι : Tags} {β : Bool} {b : Nat}
    (h : zone ⟨P,r,N,dfr,W,Zs,Zb,ownedBy Hx ι,KB,ιs⟩ Hx ι W β b) : (β = true ∧ Zb b) ∨ Zs b := by
  obtain ⟨h1,h2,h3⟩ := h
  rcases h3 with h3 | h3 | h3 | ⟨t,ht,e⟩
  · exact .inl h3
  · exact .inr h3
  · exact absurd h1 (Nat.not_lt.2 h3)
  · exact absurd e (h2 t ht)
theorem Trans.comp {T T' : Nat → Prop} {w w1 w2 : World} (h : Trans T w w1) (k : Trans T' w1 w2) (hT : ∀ b,T' b → T b ∨ w.heap.size ≤ b) : Trans T w w2 :=
  ⟨k.os.trans h.os,k.tape.trans h.tape,k.output.trans h.output,Nat.le_trans h.size k.size,fun b hb hn => by
    rw [k.block b (Nat.lt_of_lt_of_le hb h.size) (fun h1 => by
      rcases hT b h1 with h2 | h2
      · exact hn h2
      · omega),h.block b hb hn],fun b n e => k.bsz _ _ (h.bsz _ _ e)⟩
theorem Trans.putObj {T : Nat → Prop} {w w1 : World} (h : Trans T w w1) {l : Nat} {o o' : Obj} (hl : w1.heap[l]? = some o) (ho : o.isCells = false) (hw : w.heap.size ≤ l) : Trans T w (w1.putObj l o') :=
  ⟨h.os,h.tape,h.output,by simpa using h.size,fun b hb hn => by
    rw [World.putObj_heap_other (by omega)]; exact h.block b hb hn,fun b n e => bsz_putObj hl ho _ _ (h.bsz _ _ e)⟩
theorem RgJ.abide : Abide (RgJ P N KB ιs env tm Hx ws own0 z0 l D rec) := by
  intro O O' I I' W W' hJ tr hO hI
  obtain ⟨ι,Zs,Zb,r,h1,h2,h3,h4⟩ := hJ.st
  have hlt : ∀ b,ownedBy Hx ι b → b < W.heap.size := fun b hb => r.core.lt hb
  have hz : ∀ β b,zone ⟨P,none,N,[],W,Zs,Zb,ownedBy Hx ι,KB,ιs⟩ Hx ι W β b → b < W.heap.size ∧ ¬ O b := fun β b h => by
    rcases zone_at h with ⟨_,h⟩ | h
    · exact h2 b (.inr h)
    · exact h2 b (.inl h)
  have kept : Kept (fun b => ownedBy Hx ι b ∨ zone ⟨P,none,N,[],W,Zs,Zb,ownedBy Hx ι,KB,ιs⟩ Hx ι W false b ∨ zone ⟨P,none,N,[],W,Zs,Zb,ownedBy Hx ι,KB,ιs⟩ Hx ι W true b) W W' :=
    tr.kept fun b _ hb => by
      rcases hb with hb | hb | hb
      · exact (h1 b hb).2.1
      · exact (hz _ b hb).2
      · exact (hz _ b hb).2
  have r2 := r.anew none (dfr := []) (tm := tm) rfl kept
  have hlW : l < W.heap.size := (Array.getElem?_eq_some_iff.1 hJ.rc).1
  have hDW : D < W.heap.size := (Array.getElem?_eq_some_iff.1 hJ.mark).1
  have hO' : ∀ b,b < W.heap.size → ¬ O b → ¬ O' b := fun b hb hn h => by
    rcases hO b h with h | h
    · exact hn h
    · omega
  refine ⟨⟨ι,_,_,r2,fun b hb => ⟨fun hi => ?_,hO' b (hlt b hb) (h1 b hb).2.1,(h1 b hb).2.2⟩,fun b hb => ?_,fun b hb => ?_,fun b hb => ?_⟩,?_,?_,⟨hO' l hlW hJ.lO.1,hO' D hDW hJ.lO.2⟩,hJ.lws,fun b hb => ?_,fun b hb => ?_,?_⟩
  · rcases (hI b).1 hi with h | h
    · exact (h1 b hb).1 h
    · have := hlt b hb; omega
  · have : b < W.heap.size ∧ ¬ O b := by
      rcases hb with hb | hb
      · exact hz _ b hb
      · exact hz _ b hb
    exact ⟨Nat.lt_of_lt_of_le this.1 tr.size,hO' b this.1 this.2⟩
  · rcases zone_at hb with ⟨h,_⟩ | h
    · cases h
    · exact h3 b h
  · rcases zone_at hb with ⟨_,h⟩ | h
    · exact h4 b h
    · exact .inr (h3 b h)
  · rw [tr.block l hlW hJ.lO.1]; exact hJ.rc
  · rw [tr.block D hDW hJ.lO.2]; exact hJ.mark
  · rcases hO b hb with h | h
    · exact hJ.oo b h
    · exact .inr (Nat.le_trans hJ.tr.size h)
  · rcases (hI b).1 hb with h | h
    · exact hJ.oi b h
    · exact .inr (Nat.le_trans hJ.tr.size h.1)
  · refine hJ.tr.comp tr fun b hb => hJ.oo b hb
end
def puts : St → List (Nat × AV) → St
  | s,[] => s
  | s,(d,v) :: l => puts (s.put d v) l
theorem Rel.puts {C : Ctx} {ι : Tags} {w : World} : ∀ (ps : List Nat) (vs : List AV) (us : List Value) {s : St} {tm : Array Value},Rel C s ι ⟨tm,[]⟩ w → (∀ p,p ∈ ps → p < C.N) → vs.length = ps.length → VRs w (zone C s.heap ι w) ι vs us →
    Rel C (puts s (ps.zip vs)) ι ⟨(ps.zip us).foldl (fun t q => t.setIfInBounds q.1 q.2) tm,[]⟩ w
  | [],vs,us,s,tm,r,_,_,_ => by simpa [Go.AB.puts] using r
  | p :: ps,[],us,s,tm,r,_,hl,_ => by simp at hl
  | p :: ps,v :: vs,us,s,tm,r,hp,hl,hv => by
    obtain ⟨h1,h2⟩ := hv
    cases us with
    | nil => simp at h1
    | cons u us =>
      obtain ⟨u',hu,hvr⟩ := h2 0 (by simp)
      simp at hu
      subst hu
      have r2 := r.put (d := p) (v := v) (u := u) (hp p (by simp)) hvr
      have hr2 : Rel C (s.put p v) ι ⟨tm.setIfInBounds p u,[]⟩ w := r2
      refine Rel.puts ps vs us hr2 (fun q hq => hp q (List.mem_cons_of_mem _ hq)) (by simpa using hl) ⟨by simpa using h1,fun i hi => ?_⟩
      obtain ⟨x,hx,hx2⟩ := h2 (i + 1) (by simpa using hi)
      exact ⟨x,by simpa using hx,hx2⟩
theorem owned_lt {C : Ctx} {H : List (Nat × Blk)} {ι : Tags} {w : World} (h : Core C H ι w) {b : Nat} (hb : ownedBy H ι b) : ∃ c ty n,w.heap[b]? = some (.cells c ty n) := by
  obtain ⟨t,⟨k,hk⟩,e⟩ := hb
  have := h.blk t k hk
  unfold BlkR at this
  rw [e] at this
  obtain ⟨cur,q,_⟩ := this
  exact ⟨_,_,_,q⟩
section
variable {P : Program} {N : Nat} {KB : List Nat} {ιs : Tags} {env : List (Nat × AV)} {tm : Array Value} {ws : World} {own0 : Nat → Prop} {z0 : Bool → Nat → Prop} {l D : Nat}
variable {σ R E : Type} {Hp : σ → List (Nat × Blk)} {Hb : E → σ → List (Nat × Blk)} {step : (σ → Option R) → E → σ → Option R} {k : σ → Option R} {r : R} {vals : E → List AV} {ps : Array Nat} {assign body : Code} {envb : E → σ → List (Nat × AV)} {M : Exit → σ → Prop} {fn : FuncId}
def recOf (fn : FuncId) (tm : Array Value) (ps : Array Nat) (assign body : Code) (D : Nat) (st : LoopState) (pe : Option Code) : Loop := { state := st,pending := pe,fn := fn,tmps := tm,params := ps,assign := assign,body := body,defers := D }
structure BodyOk (P : Program) (N l : Nat) (KB : List Nat) (env : List (Nat × AV)) {σ R E : Type} (Hp : σ → List (Nat × Blk)) (Hb : E → σ → List (Nat × Blk)) (step : (σ → Option R) → E → σ → Option R) (r : R) (vals : E → List AV) (ps : Array Nat) (assign body : Code)
    (envb : E → σ → List (Nat × AV)) (M : Exit → σ → Prop) : Prop where
  hps : ∀ p,p ∈ ps.toList → p < N
  hvl : ∀ e,(vals e).length = ps.size
  assign : ∀ w0 Zs Zb T0 ι0 x e,AWP ⟨P,some l,N,[],w0,Zs,Zb,T0,KB,ι0⟩ assign (fun e' s' => e' = .normal ∧ VC ⟨P,some l,N,[],w0,Zs,Zb,T0,KB,ι0⟩ s' ⟨envb e x,Hb e x⟩) (puts ⟨env,Hp x⟩ (ps.toList.zip (vals e)))
  body : ∀ w0 Zs Zb T0 ι0 nx x e,step nx e x = some r → AWP ⟨P,some l,N,[],w0,Zs,Zb,T0,KB,ι0⟩ body (fun e' s' => ∃ x',VC ⟨P,some l,N,[],w0,Zs,Zb,T0,KB,ι0⟩ s' ⟨[],Hp x'⟩ ∧
    ((e' = .normal ∧ nx x' = some r) ∨ ((e' = .ret ∨ ∃ id,e' = .exit id) ∧ M e' x'))) ⟨envb e x,Hb e x⟩
theorem RgJ.round {xs : List E} (hz0 : ∀ β b,z0 β b → ¬ own0 b ∧ b < ws.heap.size) (htag : ∀ t v,look t env = some v → ∀ t',AV.free t' v = false → t' ∈ KB)
    (hB : BodyOk P N l KB env Hp Hb step r vals ps assign body envb M) :
    RoundOk P l vals xs (fun b => z0 false b) (fun b => z0 true b)
      (fun pre O I W => ∃ x rest,xs = pre ++ rest ∧ rangeL step rest k x = some r ∧ RgJ P N KB ιs env tm (Hp x) ws own0 z0 l D (recOf fn tm ps assign body D .ready none) O I W)
      (fun O I W => ∃ x e2 c,((e2 = .ret ∧ c = Code.ret) ∨ ∃ id,e2 = .exit id ∧ c = .exit id) ∧ M e2 x ∧ RgJ P N KB ιs env tm (Hp x) ws own0 z0 l D (recOf fn tm ps assign body D .done (some c)) O I W) := by
  rintro pre e rest0 O I W Z us exs ⟨x,rest,exs',hx,hJ⟩ hOI hIlt hZ hvs
  have hrest : rest = e :: rest0 := List.append_cancel_left (exs'.symm.trans exs)
  subst hrest
  rw [rangeL] at hx
  obtain ⟨ι,Zs,Zb,r0,h1,h2,h3,h4⟩ := hJ.st
  have hlW : l < W.heap.size := (Array.getElem?_eq_some_iff.1 hJ.rc).1
  have hDW : D < W.heap.size := (Array.getElem?_eq_some_iff.1 hJ.mark).1
  have notCells : ∀ {w : World} {b : Nat} {o : Obj},w.heap[b]? = some o → o.isCells = false → ∀ {c ty n},w.heap[b]? ≠ some (.cells c ty n) := by
    intro w b o h ho c ty n h'
    rw [h] at h'
    cases h'
    simp [Obj.isCells] at ho
  have own_l : ∀ {C : Ctx} {H : List (Nat × Blk)} {ι : Tags} {w : World} {b : Nat} {o : Obj},Core C H ι w → w.heap[b]? = some o → o.isCells = false → ¬ ownedBy H ι b := by
    intro C H ι w b o hc h ho hb
    obtain ⟨c,ty,n,h'⟩ := owned_lt hc hb
    exact notCells h ho h'
  -- the round's first context
  let C1 : Ctx := ⟨P,some l,N,[],W,fun b => Zs b ∨ Z false b,fun b => Zb b ∨ Z true b,ownedBy (Hp x) ι,KB,ιs⟩
  have hZown : ∀ β b,Z β b → ¬ ownedBy (Hp x) ι b := by
    intro β b hz ho
    obtain ⟨_,_,h⟩ := hZ β b hz
    rcases h with h | ⟨_,h⟩ | h
    · have := hz0 _ _ h
      rcases (h1 b ho).2.2 with h5 | h5
      · exact this.1 h5
      · omega
    · have := hz0 _ _ h
      rcases (h1 b ho).2.2 with h5 | h5
      · exact this.1 h5
      · omega
    · exact (h1 b ho).1 h
  have hzone1 : ∀ β b,zone ⟨P,none,N,[],W,Zs,Zb,ownedBy (Hp x) ι,KB,ιs⟩ (Hp x) ι W β b → zone C1 (Hp x) ι W β b := by
    intro β b hz
    refine ⟨hz.1,hz.2.1,?_⟩
    rcases zone_at hz with ⟨e1,h⟩ | h
    · exact .inl ⟨e1,.inl h⟩
    · exact .inr (.inl (.inl h))
  have hzoneZ : ∀ β b,Z β b → zone C1 (Hp x) ι W β b := by
    intro β b hz
    refine ⟨(hZ β b hz).1,fun t ht e1 => hZown β b hz ⟨t,ht,e1⟩,?_⟩
    cases β with
    | true => exact .inl ⟨rfl,.inr hz⟩
    | false => exact .inr (.inl (.inr hz))
  have r1 : Rel C1 ⟨env,Hp x⟩ ι ⟨tm,[]⟩ W := by
    refine ⟨r0.size,rfl,fun d v hl => (r0.env d v hl).mono (fun _ _ h => h) _ _ hzone1 (fun _ _ _ _ _ h => h) (fun _ _ _ h => h),⟨fun t kk hk => ?_,r0.core.inj,r0.core.own,Trans.refl _ _⟩,r0.stab⟩
    have h0 := r0.core.blk t kk hk
    unfold BlkR at h0 ⊢
    cases hxx : ι t with
    | none => simp only [hxx] at h0 ⊢; exact h0
    | some b =>
      simp only [hxx] at h0 ⊢
      obtain ⟨cur,q1,q2,q3⟩ := h0
      refine ⟨cur,q1,q2,fun i hi => ?_⟩
      obtain ⟨u,hu,hv⟩ := q3 i hi
      refine ⟨u,hu,hv.mono (fun _ _ h => h) _ _ ?_ (fun _ _ _ _ _ h => h) (fun _ _ _ h => h)⟩
      cases kk.lst with
      | true => exact fun _ b hb => hzone1 _ _ hb
      | false => exact hzone1
  have hvs1 : VRs W (zone C1 (Hp x) ι W) ι (vals e) us := ⟨hvs.1,fun i hi => by
    obtain ⟨u,hu,hv⟩ := hvs.2 i hi
    exact ⟨u,hu,hv.mono (fun _ _ h => h) _ _ hzoneZ (fun _ _ _ _ _ h => h) (fun t b _ h => by cases h)⟩⟩
  have r2 := Rel.puts (ps.toList) (vals e) us r1 hB.hps (by rw [hB.hvl]; simp) hvs1
  have husz : us.toArray.size = ps.size := by rw [List.size_toArray,hvs.1,hB.hvl]
  have hy := run_yield (P := P) (args := us.toArray) hJ.rc (by simpa [recOf] using husz)
  have hfold : (ps.zip us.toArray).foldl (fun tmps q => tmps.setIfInBounds q.1 q.2) tm = (ps.toList.zip us).foldl (fun t q => t.setIfInBounds q.1 q.2) tm := by
    rw [← Array.foldl_toList]
    simp
  refine ⟨fn,_,assign,body,hy,roundIn_of_wpIn trivial ?_⟩
  have ha := hB.assign W (fun b => Zs b ∨ Z false b) (fun b => Zb b ∨ Z true b) (ownedBy (Hp x) ι) ιs x e ι ⟨(ps.toList.zip us).foldl (fun t q => t.setIfInBounds q.1 q.2) tm,[]⟩ W r2
  rw [show (Array.zip (recOf fn tm ps assign body D .ready none).params us.toArray).foldl (fun tmps x => match x with | (t,a) => tmps.setIfInBounds t a) (recOf fn tm ps assign body D .ready none).tmps = _ from hfold]
  refine wpIn_mono ha ?_
  rintro e1 a1 w1 ⟨s1,ι1,r3,rfl,hvc⟩
  obtain ⟨ι2,r4⟩ := hvc ι1 a1 w1 r3
  have tr1 : Trans (ownedBy (Hp x) ι) W w1 := r4.core.tr
  have nl : ¬ ownedBy (Hp x) ι l := own_l r0.core hJ.rc rfl
  have nD : ¬ ownedBy (Hp x) ι D := own_l r0.core hJ.mark rfl
  have hl1 : w1.heap[l]? = some (.loop (recOf fn tm ps assign body D .ready none)) := by rw [tr1.block l hlW nl]; exact hJ.rc
  have hD1 : w1.heap[D]? = some (.deferred (some [])) := by rw [tr1.block D hDW nD]; exact hJ.mark
  refine ⟨_,run_beginRound hl1 rfl,?_⟩
  have kp1 : ∀ B,Kept B w1 (w1.putObj l (.loop { recOf fn tm ps assign body D .ready none with state := .busy })) := fun B => Kept.putObj hl1 rfl
  have hl2 : (w1.putObj l (.loop { recOf fn tm ps assign body D .ready none with state := .busy })).heap[l]? = some (.loop { recOf fn tm ps assign body D .ready none with state := .busy }) := World.putObj_heap_same (Array.getElem?_eq_some_iff.1 hl1).1
  have hD2 : (w1.putObj l (.loop { recOf fn tm ps assign body D .ready none with state := .busy })).heap[D]? = some (.deferred (some [])) := (World.putObj_heap_other hJ.lws.2.2.symm).trans hD1
  have sz2 : (w1.putObj l (.loop { recOf fn tm ps assign body D .ready none with state := .busy })).heap.size = w1.heap.size := by simp
  have tr2 : Trans own0 ws (w1.putObj l (.loop { recOf fn tm ps assign body D .ready none with state := .busy })) := (hJ.tr.comp tr1 fun b hb => (h1 b hb).2.2).putObj hl1 rfl hJ.lws.1
  generalize w1.putObj l (.loop { recOf fn tm ps assign body D .ready none with state := .busy }) = w2 at kp1 hl2 hD2 sz2 tr2 ⊢
  have r5 := r4.anew (some l) (dfr := []) (tm := a1.tmps) rfl (kp1 _)
  have ea : a1 = ⟨a1.tmps,[]⟩ := by
    have := r4.dfr
    obtain ⟨u,v⟩ := a1
    simp only at this
    subst this
    rfl
  rw [ea]
  have hb := hB.body w2 (fun b => zone C1 (Hb e x) ι2 w1 false b) (fun b => zone C1 (Hb e x) ι2 w1 true b) (ownedBy (Hb e x) ι2) ιs (rangeL step rest0 k) x e hx ι2 ⟨a1.tmps,[]⟩ w2 r5
  refine wpIn_mono hb ?_
  rintro e3 a3 w3 ⟨s3,ι3',r6,x',hvc3,hend⟩
  obtain ⟨ι3,r7⟩ := hvc3 ι3' a3 w3 r6
  have tr3 : Trans (ownedBy (Hb e x) ι2) w2 w3 := r7.core.tr
  have hws : ws.heap.size ≤ W.heap.size := hJ.tr.size
  have sz1 : W.heap.size ≤ w1.heap.size := tr1.size
  have sz3 : w2.heap.size ≤ w3.heap.size := tr3.size
  have o12 : ∀ b,ownedBy (Hb e x) ι2 b → W.heap.size ≤ b ∨ ownedBy (Hp x) ι b := by
    rintro b ⟨t,ht,et⟩
    exact r4.core.own t b ht et
  have o23 : ∀ b,ownedBy (Hp x') ι3 b → w2.heap.size ≤ b ∨ ownedBy (Hb e x) ι2 b := by
    rintro b ⟨t,ht,et⟩
    exact r7.core.own t b ht et
  have nl2 : ¬ ownedBy (Hb e x) ι2 l := own_l r5.core hl2 rfl
  have nD2 : ¬ ownedBy (Hb e x) ι2 D := own_l r5.core hD2 rfl
  have hl3 : w3.heap[l]? = some (.loop { recOf fn tm ps assign body D .ready none with state := .busy }) := by rw [tr3.block l (by omega) nl2]; exact hl2
  have hD3 : w3.heap[D]? = some (.deferred (some [])) := by rw [tr3.block D (by omega) nD2]; exact hD2
  have zc1 : ∀ β b,zone C1 (Hb e x) ι2 w1 β b → ¬ O b ∧ (β = false → z0 false b ∨ own0 b ∨ ws.heap.size ≤ b) ∧ (z0 true b ∨ z0 false b ∨ own0 b ∨ ws.heap.size ≤ b) := by
    intro β b hz
    have fromZ : ∀ β',Z β' b → ¬ O b ∧ (β' = false → z0 false b ∨ own0 b ∨ ws.heap.size ≤ b) ∧ (z0 true b ∨ z0 false b ∨ own0 b ∨ ws.heap.size ≤ b) := by
      intro β' h
      obtain ⟨_,q1,q2⟩ := hZ β' b h
      refine ⟨q1,fun e0 => ?_,?_⟩
      · rcases q2 with q | ⟨q,_⟩ | q
        · exact .inl q
        · rw [e0] at q; cases q
        · exact .inr (hJ.oi b q)
      · rcases q2 with q | ⟨_,q⟩ | q
        · exact .inr (.inl q)
        · exact .inl q
        · exact .inr (.inr (hJ.oi b q))
    rcases hz.2.2 with ⟨e0,h | h⟩ | (h | h) | h | h
    · exact ⟨(h2 b (.inr h)).2,(fun e1 => by rw [e0] at e1; cases e1),h4 b h⟩
    · have := fromZ true h
      exact ⟨this.1,(fun e1 => by rw [e0] at e1; cases e1),this.2.2⟩
    · exact ⟨(h2 b (.inl h)).2,fun _ => h3 b h,.inr (h3 b h)⟩
    · have := fromZ false h
      exact ⟨this.1,fun _ => this.2.1 rfl,this.2.2⟩
    · have h : W.heap.size ≤ b := h
      exact ⟨fun ho => by have := hIlt b (hOI b ho); omega,fun _ => .inr (.inr (by omega)),.inr (.inr (.inr (by omega)))⟩
    · have := h1 b h
      exact ⟨this.2.1,fun _ => .inr this.2.2,.inr (.inr this.2.2)⟩
  let C2 : Ctx := ⟨P,some l,N,[],w2,fun b => zone C1 (Hb e x) ι2 w1 false b,fun b => zone C1 (Hb e x) ι2 w1 true b,ownedBy (Hb e x) ι2,KB,ιs⟩
  have zc2 : ∀ β b,zone C2 (Hp x') ι3 w3 β b → ¬ O b ∧ (β = false → z0 false b ∨ own0 b ∨ ws.heap.size ≤ b) ∧ (z0 true b ∨ z0 false b ∨ own0 b ∨ ws.heap.size ≤ b) := by
    intro β b hz
    rcases hz.2.2 with ⟨e0,h⟩ | h | h | h
    · have := zc1 true b h
      exact ⟨this.1,(fun e1 => by rw [e0] at e1; cases e1),this.2.2⟩
    · have := zc1 false b h
      exact ⟨this.1,fun _ => this.2.1 rfl,this.2.2⟩
    · have h : w2.heap.size ≤ b := h
      exact ⟨fun ho => by have := hIlt b (hOI b ho); omega,fun _ => .inr (.inr (by omega)),.inr (.inr (.inr (by omega)))⟩
    · rcases o12 b h with h | h
      · exact ⟨fun ho => by have := hIlt b (hOI b ho); omega,fun _ => .inr (.inr (by omega)),.inr (.inr (.inr (by omega)))⟩
      · have := h1 b h
        exact ⟨this.2.1,fun _ => .inr this.2.2,.inr (.inr this.2.2)⟩
  have fin : ∀ (st : LoopState) (pe : Option Code),Kept (fun b => O b ∨ Z false b ∨ Z true b) W (w3.putObj l (.loop (recOf fn tm ps assign body D st pe))) ∧
      RgJ P N KB ιs env tm (Hp x') ws own0 z0 l D (recOf fn tm ps assign body D st pe) O I (w3.putObj l (.loop (recOf fn tm ps assign body D st pe))) := by
    intro st pe
    have kp : ∀ B,Kept B w3 (w3.putObj l (.loop (recOf fn tm ps assign body D st pe))) := fun B => Kept.putObj hl3 rfl
    have sz4 : (w3.putObj l (.loop (recOf fn tm ps assign body D st pe))).heap.size = w3.heap.size := by simp
    have hl4 : (w3.putObj l (.loop (recOf fn tm ps assign body D st pe))).heap[l]? = some (.loop (recOf fn tm ps assign body D st pe)) := World.putObj_heap_same (Array.getElem?_eq_some_iff.1 hl3).1
    have hD4 : (w3.putObj l (.loop (recOf fn tm ps assign body D st pe))).heap[D]? = some (.deferred (some [])) := (World.putObj_heap_other hJ.lws.2.2.symm).trans hD3
    have tr4 : Trans own0 ws (w3.putObj l (.loop (recOf fn tm ps assign body D st pe))) := (tr2.comp tr3 fun b hb => by
      rcases o12 b hb with h | h
      · exact .inr (by omega)
      · exact (h1 b h).2.2).putObj hl3 rfl hJ.lws.1
    have kW : Kept (fun b => b < W.heap.size ∧ ¬ ownedBy (Hp x) ι b) W (w3.putObj l (.loop (recOf fn tm ps assign body D st pe))) :=
      (((tr1.kept fun b _ hb => hb.2).trans (kp1 _)).trans (tr3.kept fun b _ hb ho => by
        rcases o12 b ho with h | h
        · omega
        · exact hb.2 h)).trans (kp _)
    have r8 := r7.anew none (dfr := []) (tm := a3.tmps) rfl (kp _)
    generalize w3.putObj l (.loop (recOf fn tm ps assign body D st pe)) = w4 at kp sz4 hl4 hD4 tr4 kW r8 ⊢
    refine ⟨kW.sub fun b hb => ?_,⟨⟨ι3,_,_,⟨r0.size,rfl,fun d v hl => ?_,r8.core,r8.stab⟩,fun b hb => ?_,fun b hb => ?_,fun b hb => (zc2 _ b hb).2.1 rfl,fun b hb => (zc2 _ b hb).2.2⟩,hl4,hD4,hJ.lO,hJ.lws,hJ.oo,hJ.oi,tr4⟩⟩
    · rcases hb with hb | hb | hb
      · exact ⟨hIlt b (hOI b hb),fun ho => (h1 b ho).2.1 hb⟩
      · exact ⟨(hZ _ b hb).1,hZown _ b hb⟩
      · exact ⟨(hZ _ b hb).1,hZown _ b hb⟩
    · refine (r0.env d v hl).mono kW.bsz _ _ (fun β b hz => ?_) (fun β b o u hz hu => kW.cell ⟨hz.1,fun ⟨t,ht,et⟩ => hz.2.1 t ht et⟩ hu) (fun t b hf et => ?_)
      · have no : ¬ ownedBy (Hp x) ι b := fun ⟨t,ht,et⟩ => hz.2.1 t ht et
        have hzW : b < W.heap.size := hz.1
        have z1 : zone C1 (Hb e x) ι2 w1 β b := zone_keep (C := C1) r4.core hz.1 no (by
          rcases zone_at hz with ⟨e0,h⟩ | h
          · exact .inl ⟨e0,.inl h⟩
          · exact .inr (.inl h))
        have no2 : ¬ ownedBy (Hb e x) ι2 b := fun ho => by
          rcases o12 b ho with h | h
          · omega
          · exact no h
        have z2 : zone C2 (Hp x') ι3 w3 β b := zone_keep (C := C2) r7.core (show b < w2.heap.size by omega) no2 (by
          cases β with
          | true => exact .inl ⟨rfl,z1⟩
          | false => exact .inr z1)
        refine ⟨by rw [sz4]; exact z2.1,z2.2.1,?_⟩
        cases β with
        | true => exact .inl ⟨rfl,z2⟩
        | false => exact .inr (.inl z2)
      · have ht := htag d v hl t hf
        have e1 := r0.stab t ht
        have e2 := r7.stab t ht
        show ι3 t = some b
        rw [e2]
        rw [e1] at et
        exact et
    · rcases o23 b hb with h | h
      · exact ⟨fun hi => by have := hIlt b hi; omega,fun ho => by have := hIlt b (hOI b ho); omega,.inr (by omega)⟩
      · rcases o12 b h with h | h
        · exact ⟨fun hi => by have := hIlt b hi; omega,fun ho => by have := hIlt b (hOI b ho); omega,.inr (by omega)⟩
        · exact h1 b h
    · rcases hb with hb | hb
      · exact ⟨by rw [sz4]; exact hb.1,(zc2 _ b hb).1⟩
      · exact ⟨by rw [sz4]; exact hb.1,(zc2 _ b hb).1⟩
  rcases hend with ⟨rfl,hnx⟩ | ⟨he3,hM⟩
  · obtain ⟨k1,k2⟩ := fin .ready none
    exact ⟨_,_,run_endRound none hl3,k1,.inl ⟨rfl,x',rest0,by rw [exs]; simp,hnx,k2⟩⟩
  · rcases he3 with rfl | ⟨id,rfl⟩
    · obtain ⟨k1,k2⟩ := fin .done (some .ret)
      exact ⟨_,_,run_endRound (some .ret) hl3,k1,.inr ⟨rfl,x',.ret,.ret,.inl ⟨rfl,rfl⟩,hM,k2⟩⟩
    · obtain ⟨k1,k2⟩ := fin .done (some (.exit id))
      exact ⟨_,_,run_endRound (some (.exit id)) hl3,k1,.inr ⟨rfl,x',.exit id,.exit id,.inr ⟨id,rfl,rfl⟩,hM,k2⟩⟩
end
end Go.AB
namespace Go.AB
open Go
theorem Rel.part {C : Ctx} {s : St} {ι : Tags} {a : Act} {w w' : World} (r : Rel C s ι a w) (ro : Option Nat) {dfr : List Deferred} {tm : Array Value} (ht : tm = a.tmps) {env : List (Nat × AV)} {Hx : List (Nat × Blk)}
    (henv : ∀ t v,look t env = some v → look t s.env = some v) (hHx : ∀ t kk,look t Hx = some kk → look t s.heap = some kk) {KB : List Nat} {ι0 : Tags} (hst : ∀ t,t ∈ KB → ι t = ι0 t)
    (k : Kept (fun b => ownedBy s.heap ι b ∨ zone C s.heap ι w false b ∨ zone C s.heap ι w true b) w w') :
    Rel ⟨C.P,ro,C.N,dfr,w',fun b => zone C s.heap ι w false b,fun b => zone C s.heap ι w true b,ownedBy Hx ι,KB,ι0⟩ ⟨env,Hx⟩ ι ⟨tm,dfr⟩ w' := by
  subst ht
  have hhas : ∀ t,has t Hx → has t s.heap := fun t ⟨kk,hk⟩ => ⟨kk,hHx t kk hk⟩
  have hZ : ∀ β b,zone C s.heap ι w β b → zone ⟨C.P,ro,C.N,dfr,w',fun b => zone C s.heap ι w false b,fun b => zone C s.heap ι w true b,ownedBy Hx ι,KB,ι0⟩ Hx ι w' β b := by
    intro β b hz
    refine ⟨Nat.lt_of_lt_of_le hz.1 k.size,fun t ht => hz.2.1 t (hhas t ht),?_⟩
    cases β with
    | true => exact .inl ⟨rfl,hz⟩
    | false => exact .inr (.inl hz)
  have hcell : ∀ β b o u,zone C s.heap ι w β b → w.cell? ⟨b,o,none⟩ = some u → w'.cell? ⟨b,o,none⟩ = some u := by
    intro β b o u hz hu
    exact k.cell (by cases β with | true => exact .inr (.inr hz) | false => exact .inr (.inl hz)) hu
  refine ⟨r.size,rfl,fun d v hl => (r.env d v (henv d v hl)).mono k.bsz _ _ hZ hcell (fun _ _ _ h => h),⟨fun t kk hk => ?_,fun t t' b h1 h2 => r.core.inj t t' b (hhas t h1) (hhas t' h2),fun t b ht e => .inr ⟨t,ht,e⟩,Trans.refl _ _⟩,hst⟩
  have h0 := r.core.blk t kk (hHx t kk hk)
  unfold BlkR at h0 ⊢
  cases hx : ι t with
  | none => simp only [hx] at h0 ⊢; exact h0
  | some b =>
    simp only [hx] at h0 ⊢
    obtain ⟨cur,q1,q2,q3⟩ := h0
    refine ⟨cur,?_,q2,fun i hi => ?_⟩
    · rw [k.block b _ _ _ (.inl ⟨t,hhas t ⟨kk,hk⟩,hx⟩) q1]; exact q1
    · obtain ⟨u,hu,hv⟩ := q3 i hi
      refine ⟨u,hu,hv.mono k.bsz _ _ ?_ ?_ (fun _ _ _ h => h)⟩
      · cases kk.lst with
        | true => exact fun _ b hb => hZ _ _ hb
        | false => exact hZ
      · cases kk.lst with
        | true => exact fun _ b o u hb => hcell _ b o u hb
        | false => exact hcell
theorem callee_core {C : Ctx} {s : St} {σ : Nat → Nat} {H : List (Nat × Blk)} {ι : Tags} {a : Act} {w w' : World} (rel : Rel C s ι a w) (hH : ∀ t k,look t H = some k → look (σ t) s.heap = some (renB σ k))
    (hinj : ∀ a b,a ∈ dom H → b ∈ dom H → σ a = σ b → a = b) (k : Kept (fun b => ownedBy s.heap ι b ∨ zone C s.heap ι w false b ∨ zone C s.heap ι w true b) w w') (ro : Option Nat) (dfr : List Deferred) :
    Core ⟨C.P,ro,C.N,dfr,w',fun b => zone C s.heap ι w false b,fun b => zone C s.heap ι w true b,ownedBy H (fun t => ι (σ t)),[],fun t => ι (σ t)⟩ H (fun t => ι (σ t)) w' := by
  have hHas : ∀ t,has t H → has (σ t) s.heap := fun t ⟨k,hk⟩ => ⟨_,hH t k hk⟩
  have hZ : ∀ β b,zone C s.heap ι w β b → zone ⟨C.P,ro,C.N,dfr,w',fun b => zone C s.heap ι w false b,fun b => zone C s.heap ι w true b,ownedBy H (fun t => ι (σ t)),[],fun t => ι (σ t)⟩ H (fun t => ι (σ t)) w' β b := by
    intro β b hz
    refine ⟨Nat.lt_of_lt_of_le hz.1 k.size,fun t ht => hz.2.1 (σ t) (hHas t ht),?_⟩
    cases β with
    | true => exact .inl ⟨rfl,hz⟩
    | false => exact .inr (.inl hz)
  have hcell : ∀ β b o u,zone C s.heap ι w β b → w.cell? ⟨b,o,none⟩ = some u → w'.cell? ⟨b,o,none⟩ = some u := by
    intro β b o u hz hu
    exact k.cell (by cases β with | true => exact .inr (.inr hz) | false => exact .inr (.inl hz)) hu
  refine ⟨fun t kk hk => ?_,fun t t' b h1 h2 e1 e2 => ?_,fun t b h e => .inr ⟨t,h,e⟩,Trans.refl _ _⟩
  · have h0 := rel.core.blk (σ t) _ (hH t kk hk)
    unfold BlkR at h0 ⊢
    cases hx : ι (σ t) with
    | none =>
      simp only [hx] at h0 ⊢
      obtain ⟨kt,kl,kc⟩ := kk
      cases kl with
      | true => exact h0
      | false => simp [renB] at h0
    | some b =>
      simp only [hx] at h0 ⊢
      have hown : ownedBy s.heap ι b := ⟨σ t,hHas t ⟨kk,hk⟩,hx⟩
      obtain ⟨kt,kl,kc⟩ := kk
      cases kl with
      | true =>
        obtain ⟨cur,q1,q2,q3⟩ := h0
        refine ⟨cur,by rw [k.block b _ _ _ (.inl hown) q1]; exact q1,q2,fun i hi => ?_⟩
        obtain ⟨u,hu,hv⟩ := q3 i hi
        exact ⟨u,hu,hv.mono k.bsz _ _ (fun _ _ h => hZ _ _ h) (fun _ b o u hb => hcell _ b o u hb) (fun _ _ _ h => h)⟩
      | false =>
        obtain ⟨cur,q1,q2,q3⟩ := h0
        have hlen : (renB σ ⟨kt,false,kc⟩).cells.length = kc.length := by simp [renB,AV.renL_eq]
        refine ⟨cur,by rw [k.block b _ _ _ (.inl hown) q1]; exact q1,by rw [hlen] at q2; exact q2,fun i hi => ?_⟩
        obtain ⟨u,hu,hv⟩ := q3 i (by rw [hlen]; exact hi)
        refine ⟨u,hu,?_⟩
        have e1 : (renB σ ⟨kt,false,kc⟩).cells[i]'(by rw [hlen]; exact hi) = (kc[i]'hi).ren σ := by simp [renB,AV.renL_eq]
        rw [e1] at hv
        exact (hv.unren (σ := σ)).mono k.bsz _ _ hZ hcell (fun _ _ _ h => h)
  · exact hinj t t' (has_dom.1 h1) (has_dom.1 h2) (rel.core.inj _ _ b (hHas t h1) (hHas t' h2) e1 e2)
theorem Trans.alloc {T : Nat → Prop} {w w1 : World} (h : Trans T w w1) (o : Obj) : Trans T w (w1.alloc o) :=
  ⟨h.os,h.tape,h.output,by simpa using Nat.le_succ_of_le h.size,fun b hb hn => by
    rw [RowKit.Below.heap_alloc _ _ _ (Nat.lt_of_lt_of_le hb h.size)]; exact h.block b hb hn,fun b n e => (Kept.alloc (B := fun _ => True) w1 o).bsz _ _ (h.bsz _ _ e)⟩
def markOf (B : Nat) : Deferred := { target := .collected B,args := #[] }
structure RgD where
  ms : List Nat
  w0 : World
  Zs : Nat → Prop
  Zb : Nat → Prop
  T0 : Nat → Prop
structure RgH {R : Type} (r : R) (w00 : World) (Zs0 Zb0 T00 : Nat → Prop) (g : Option R) (d : RgD) : Prop where
  g : g = some r
  tr : Trans T00 w00 d.w0
  own : ∀ b,d.T0 b → T00 b ∨ w00.heap.size ≤ b
  zs : ∀ b,d.Zs b → Zs0 b ∨ T00 b ∨ w00.heap.size ≤ b
  zb : ∀ b,d.Zb b → Zb0 b ∨ Zs0 b ∨ T00 b ∨ w00.heap.size ≤ b
  marks : ∀ B,B ∈ d.ms → d.w0.heap[B]? = some (.deferred (some [])) ∧ ¬ d.T0 B ∧ w00.heap.size ≤ B
  nodup : d.ms.Nodup
def rgFam {R : Type} (P : Program) (N : Nat) (ι0 : Tags) (r : R) (w00 : World) (Zs0 Zb0 T00 : Nat → Prop) : Fam (Option R) where
  D := RgD
  P := P
  r := none
  cx d := ⟨P,none,N,d.ms.map markOf,d.w0,d.Zs,d.Zb,d.T0,[],ι0⟩
  H g d := RgH r w00 Zs0 Zb0 T00 g d
  hP _ := rfl
  hr _ := rfl
section
variable {P : Program} {N : Nat} {ι0 : Tags} {w00 : World} {Zs0 Zb0 T00 : Nat → Prop}
theorem AWPF.range {σx R E : Type} {r : R} {Q : Exit → Option R → St → Prop} {s : St} {g : Operand} {ps : Array Nat} {assign body : Code} {f : FuncId} {avs cs : List AV} {H : List (Nat × Blk)} {vals : E → List AV} {xs : List E} {σ : Nat → Nat}
    {Hp : σx → List (Nat × Blk)} {Hb : E → σx → List (Nat × Blk)} {step : (σx → Option R) → E → σx → Option R} {k : σx → Option R} {env : List (Nat × AV)} {x0 : σx} {KB : List Nat} {envb : E → σx → List (Nat × AV)} {M : Exit → σx → Prop}
    (hS : ItSpec P f avs H vals xs) (hg : ∀ d,Ev ((rgFam P N ι0 r w00 Zs0 Zb0 T00).cx d) s g (.clo (.func f) [] cs)) (hcs : ∀ d,CvL ((rgFam P N ι0 r w00 Zs0 Zb0 T00).cx d) s σ H false cs avs)
    (hH : ∀ t k,look t H = some k → look (σ t) s.heap = some (renB σ k)) (hinj : ∀ a b,a ∈ dom H → b ∈ dom H → σ a = σ b → a = b)
    (hHp : ∀ t kk,look t (Hp x0) = some kk → look t s.heap = some kk) (hdis : ∀ t,has t (Hp x0) → t ∉ (dom H).map σ)
    (henv : ∀ t v,look t env = some v → look t s.env = some v) (htag : ∀ t v,look t env = some v → ∀ t',AV.free t' v = false → t' ∈ KB)
    (hx : rangeL step xs k x0 = some r) (hB : ∀ l,BodyOk P N l KB env Hp Hb step r vals ps assign body envb M)
    (hk : ∀ x,k x = some r → Q .normal (some r) ⟨env,Hp x⟩) (hstop : ∀ e x,M e x → Q e (some r) ⟨env,Hp x⟩) :
    AWPF (rgFam P N ι0 r w00 Zs0 Zb0 T00) (.rangeFunc g ps assign body) Q (some r) s := by
  intro d ι a w hR rel
  obtain ⟨hable,hspec⟩ := hS
  have hHas : ∀ t,has t H → has (σ t) s.heap := fun t ⟨k,hk⟩ => ⟨_,hH t k hk⟩
  have hv := hg d ι a w rel
  generalize hge : a.eval g = ge at hv
  cases hv with
  | clo _ _ _ _ _ u1 v1 hu hl q1 q2 =>
  have hu1 : u1 = [] := List.eq_nil_of_length_eq_zero (by simpa using hu)
  subst hu1
  have hvrs := (hcs d).vrs hHas rel [] hl q2
  refine wpIn_rangeFunc fun fn _ => ?_
  obtain ⟨W1,hW1⟩ : ∃ W1,(w.alloc (.deferred (some []))).alloc (.loop (recOf fn a.tmps ps assign body w.heap.size .ready none)) = W1 := ⟨_,rfl⟩
  have hL1 : W1.heap[w.heap.size + 1]? = some (.loop (recOf fn a.tmps ps assign body w.heap.size .ready none)) := by
    rw [← hW1]; have := World.alloc_heap_new (w.alloc (.deferred (some []))) (.loop (recOf fn a.tmps ps assign body w.heap.size .ready none)); rwa [World.size_alloc] at this
  have hD1 : W1.heap[w.heap.size]? = some (.deferred (some [])) := by
    rw [← hW1]; exact (RowKit.Below.heap_alloc _ _ _ (by simp)).trans (World.alloc_heap_new w _)
  have kp1 : ∀ B,Kept B w W1 := fun B => by rw [← hW1]; exact (Kept.alloc w _).trans (Kept.alloc _ _)
  have tr1 : Trans (fun b => ownedBy s.heap ι b) w W1 := by rw [← hW1]; exact ((Trans.refl _ w).alloc _).alloc _
  have sz1 : w.heap.size ≤ W1.heap.size := tr1.size
  have hen : (Instr.enterLoop fn a.tmps ps assign body none).run P w = .ok (w.heap.size + 1,[markOf w.heap.size]) W1 := by
    rw [← hW1]; exact run_enterLoop_outer _ _ _ _ _
  have hcore := callee_core rel hH hinj (kp1 _) none []
  have howlt : ∀ b,ownedBy s.heap ι b → b < w.heap.size := fun b hb => rel.core.lt hb
  have hOs : ∀ b,ownedBy H (fun t => ι (σ t)) b → ownedBy s.heap ι b := fun b ⟨t,ht,e⟩ => ⟨σ t,hHas t ht,e⟩
  have hvr1 : VRs W1 (zone ⟨P,none,N,[],W1,fun b => zone ((rgFam P N ι0 r w00 Zs0 Zb0 T00).cx d) s.heap ι w false b,fun b => zone ((rgFam P N ι0 r w00 Zs0 Zb0 T00).cx d) s.heap ι w true b,ownedBy H (fun t => ι (σ t)),[],fun t => ι (σ t)⟩ H (fun t => ι (σ t)) W1) (fun t => ι (σ t)) avs v1 := by
    refine ⟨hvrs.1,fun i hi => ?_⟩
    obtain ⟨u,hu,hvv⟩ := hvrs.2 i hi
    refine ⟨u,hu,hvv.mono (kp1 (fun _ => True)).bsz _ _ (fun β b hz => ?_) (fun β b o u hz hu => (kp1 (fun _ => True)).cell trivial hu) (fun _ _ _ h => h)⟩
    refine ⟨Nat.lt_of_lt_of_le hz.1 sz1,hz.2.1,?_⟩
    rcases hz.2.2 with ⟨e0,h | ⟨h,_⟩⟩ | h | h | h
    · exact .inl ⟨e0,h⟩
    · cases h
    · exact .inr (.inl h)
    · exact absurd hz.1 (Nat.not_lt.2 h)
    · exact .inr (.inr (.inr h))
  have rP := rel.part none (dfr := []) (tm := a.tmps) rfl henv hHp (KB := KB) (ι0 := ι) (fun _ _ => rfl) (kp1 _)
  have hz0 : ∀ β b,zone ((rgFam P N ι0 r w00 Zs0 Zb0 T00).cx d) s.heap ι w β b → ¬ ownedBy s.heap ι b ∧ b < w.heap.size := fun β b hz => ⟨fun ⟨t,ht,e⟩ => hz.2.1 t ht e,hz.1⟩
  have hround := RgJ.round (P := P) (N := N) (KB := KB) (ιs := ι) (env := env) (tm := a.tmps) (ws := w) (own0 := ownedBy s.heap ι) (z0 := zone ((rgFam P N ι0 r w00 Zs0 Zb0 T00).cx d) s.heap ι w) (l := w.heap.size + 1) (D := w.heap.size)
    (Hp := Hp) (Hb := Hb) (step := step) (k := k) (r := r) (vals := vals) (ps := ps) (assign := assign) (body := body) (envb := envb) (M := M) (fn := fn) (xs := xs) hz0 htag (hB _)
  have hJ0 : RgJ P N KB ι env a.tmps (Hp x0) w (ownedBy s.heap ι) (zone ((rgFam P N ι0 r w00 Zs0 Zb0 T00).cx d) s.heap ι w) (w.heap.size + 1) w.heap.size (recOf fn a.tmps ps assign body w.heap.size .ready none) (ownedBy H (fun t => ι (σ t))) (ownedBy H (fun t => ι (σ t))) W1 := by
    have hdj : ∀ b,ownedBy (Hp x0) ι b → ¬ ownedBy H (fun t => ι (σ t)) b := by
      rintro b ⟨t,⟨kk,ht⟩,e⟩ ⟨t',ht',e'⟩
      have := rel.core.inj t (σ t') b ⟨kk,hHp t kk ht⟩ (hHas t' ht') e e'
      exact hdis t ⟨kk,ht⟩ (this ▸ List.mem_map_of_mem (has_dom.1 ht'))
    refine ⟨⟨ι,_,_,rP,fun b hb => ⟨hdj b hb,hdj b hb,.inl ?_⟩,fun b hb => ?_,fun b hb => .inl hb,fun b hb => .inl hb⟩,hL1,hD1,⟨fun h => ?_,fun h => ?_⟩,⟨by omega,Nat.le_refl _,by omega⟩,fun b hb => .inl (hOs b hb),fun b hb => .inl (hOs b hb),tr1⟩
    · obtain ⟨t,⟨kk,ht⟩,e⟩ := hb
      exact ⟨t,⟨kk,hHp t kk ht⟩,e⟩
    · rcases hb with hb | hb
      · exact ⟨Nat.lt_of_lt_of_le hb.1 sz1,fun ho => (hz0 _ b hb).1 (hOs b ho)⟩
      · exact ⟨Nat.lt_of_lt_of_le hb.1 sz1,fun ho => (hz0 _ b hb).1 (hOs b ho)⟩
    · have := howlt _ (hOs _ h); omega
    · have := howlt _ (hOs _ h); omega
  have hcall := hspec _ _ (fun t => ι (σ t)) W1 v1 N [] none hcore hvr1 (w.heap.size + 1) _ _ (fun pre => ?_) ?_ hround ⟨x0,xs,rfl,hx,hJ0⟩
  · refine ⟨w.heap.size + 1,[markOf w.heap.size],W1,{ target := .fn (.func f) v1.toArray,args := #[.func (.yield (w.heap.size + 1)) #[] #[]] },W1,f,#[.func (.yield (w.heap.size + 1)) #[] #[]] ++ v1.toArray,W1,hen,?_,fun _ _ => trivial,?_,(fun h => by cases h),?_⟩
    · simp only [resolve,hge]
      simp [go_sem]
    · simp only [invoke]
      exact run_callFunc hable
    · have earr : (#[Value.func (.yield (w.heap.size + 1)) #[] #[]] ++ v1.toArray : Array Value) = (Value.func (.yield (w.heap.size + 1)) #[] #[] :: v1).toArray := by simp
      rw [earr]
      refine CallsIn.mono hcall ?_
      rintro e W2 ⟨⟨v,rfl⟩,O',I',hend⟩
      have own_l : ∀ {C : Ctx} {H : List (Nat × Blk)} {ι : Tags} {w : World} {b : Nat} {o : Obj},Core C H ι w → w.heap[b]? = some o → o.isCells = false → ¬ ownedBy H ι b := by
        intro C H ι w b o hc h ho hb
        obtain ⟨c,ty,n,h'⟩ := owned_lt hc hb
        rw [h] at h'
        cases h'
        simp [Obj.isCells] at ho
      -- the caller's state behind the loop
      have fin : ∀ (x : σx) (st : LoopState) (pe : Option Code),RgJ P N KB ι env a.tmps (Hp x) w (ownedBy s.heap ι) (zone ((rgFam P N ι0 r w00 Zs0 Zb0 T00).cx d) s.heap ι w) (w.heap.size + 1) w.heap.size (recOf fn a.tmps ps assign body w.heap.size st pe) O' I' W2 →
          ∀ o,∃ d' ι',(rgFam P N ι0 r w00 Zs0 Zb0 T00).H (some r) d' ∧ Rel ((rgFam P N ι0 r w00 Zs0 Zb0 T00).cx d') ⟨env,Hp x⟩ ι' { a with defers := [markOf w.heap.size] ++ a.defers } (W2.putObj (w.heap.size + 1) (.loop o)) := by
        intro x st pe hJ o
        obtain ⟨ι1,Zs,Zb,r1,h1,h2,h3,h4⟩ := hJ.st
        have kp : ∀ B,Kept B W2 (W2.putObj (w.heap.size + 1) (.loop o)) := fun B => Kept.putObj hJ.rc rfl
        have r2 := r1.part none (dfr := (w.heap.size :: d.ms).map markOf) (tm := a.tmps) rfl (fun _ _ h => h) (fun _ _ h => h) (KB := []) (ι0 := ι0) (fun _ h => by cases h) (kp _)
        have zs_of : ∀ b,ownedBy s.heap ι b → T00 b ∨ w00.heap.size ≤ b := fun b ⟨t,ht,e⟩ => by
          rcases rel.core.own t b ht e with h | h
          · have h : d.w0.heap.size ≤ b := h
            have := hR.tr.size
            exact .inr (by omega)
          · exact hR.own b h
        have trw : Trans T00 w00 w := hR.tr.comp rel.core.tr fun b hb => hR.own b hb
        have hw : w00.heap.size ≤ w.heap.size := trw.size
        have tr2 : Trans T00 w00 W2 := trw.comp hJ.tr fun b hb => zs_of b hb
        have zF : ∀ b,zone ((rgFam P N ι0 r w00 Zs0 Zb0 T00).cx d) s.heap ι w false b → Zs0 b ∨ T00 b ∨ w00.heap.size ≤ b := fun b hz => by
          rcases hz.2.2 with ⟨e0,_⟩ | h | h | h
          · cases e0
          · exact hR.zs b h
          · have h : d.w0.heap.size ≤ b := h
            have := hR.tr.size
            exact .inr (.inr (by omega))
          · exact .inr (hR.own b h)
        have zT : ∀ b,zone ((rgFam P N ι0 r w00 Zs0 Zb0 T00).cx d) s.heap ι w true b → Zb0 b ∨ Zs0 b ∨ T00 b ∨ w00.heap.size ≤ b := fun b hz => by
          rcases hz.2.2 with ⟨_,h⟩ | h | h | h
          · exact hR.zb b h
          · exact .inr (hR.zs b h)
          · have h : d.w0.heap.size ≤ b := h
            have := hR.tr.size
            exact .inr (.inr (.inr (by omega)))
          · exact .inr (.inr (hR.own b h))
        have zs3 : ∀ b,Zs b → Zs0 b ∨ T00 b ∨ w00.heap.size ≤ b := fun b hb => by
          rcases h3 b hb with h | h | h
          · exact zF b h
          · exact .inr (zs_of b h)
          · exact .inr (.inr (by omega))
        have zb3 : ∀ b,Zb b → Zb0 b ∨ Zs0 b ∨ T00 b ∨ w00.heap.size ≤ b := fun b hb => by
          rcases h4 b hb with h | h | h | h
          · exact zT b h
          · exact .inr (zF b h)
          · exact .inr (.inr (zs_of b h))
          · exact .inr (.inr (.inr (by omega)))
        have hold : ∀ B,B ∈ d.ms → w.heap[B]? = some (.deferred (some [])) ∧ w00.heap.size ≤ B := fun B hB => by
          obtain ⟨m1,m2,m3⟩ := hR.marks B hB
          have tr := rel.core.tr
          have : w.heap[B]? = d.w0.heap[B]? := tr.block B (Array.getElem?_eq_some_iff.1 m1).1 m2
          exact ⟨this.trans m1,m3⟩
        have hmk : ∀ B,B ∈ w.heap.size :: d.ms → (W2.putObj (w.heap.size + 1) (.loop o)).heap[B]? = some (.deferred (some [])) ∧ w00.heap.size ≤ B := fun B hB => by
          rcases List.mem_cons.1 hB with rfl | hB
          · exact ⟨(World.putObj_heap_other (by omega)).trans hJ.mark,hw⟩
          · obtain ⟨m1,m2⟩ := hold B hB
            have hlt := (Array.getElem?_eq_some_iff.1 m1).1
            refine ⟨(World.putObj_heap_other (by omega)).trans ?_,m2⟩
            rw [hJ.tr.block B hlt (own_l rel.core m1 rfl)]; exact m1
        refine ⟨⟨w.heap.size :: d.ms,W2.putObj (w.heap.size + 1) (.loop o),fun b => zone ⟨P,none,N,[],W2,Zs,Zb,ownedBy (Hp x) ι1,KB,ι⟩ (Hp x) ι1 W2 false b,fun b => zone ⟨P,none,N,[],W2,Zs,Zb,ownedBy (Hp x) ι1,KB,ι⟩ (Hp x) ι1 W2 true b,ownedBy (Hp x) ι1⟩,ι1,⟨rfl,tr2.putObj hJ.rc rfl (by omega),fun b hb => ?_,fun b hb => ?_,fun b hb => ?_,fun B hB => ⟨(hmk B hB).1,own_l r2.core (hmk B hB).1 rfl,(hmk B hB).2⟩,List.nodup_cons.2 ⟨fun hm => ?_,hR.nodup⟩⟩,?_⟩
        · rcases (h1 b hb).2.2 with h | h
          · exact zs_of b h
          · exact .inr (by omega)
        · rcases zone_at hb with ⟨e0,_⟩ | h
          · cases e0
          · exact zs3 b h
        · rcases zone_at hb with ⟨_,h⟩ | h
          · exact zb3 b h
          · exact .inr (zs3 b h)
        · have := (Array.getElem?_eq_some_iff.1 (hold _ hm).1).1
          omega
        · have ed : a.defers = d.ms.map markOf := rel.dfr
          have ea : ({ a with defers := [markOf w.heap.size] ++ a.defers } : Act) = ⟨a.tmps,(w.heap.size :: d.ms).map markOf⟩ := by
            rw [ed]; rfl
          rw [ea]
          exact r2
      rcases hend with ⟨x,rest,e1,e2,hJ⟩ | ⟨x,e3,c,hc,hM,hJ⟩
      · have : rest = [] := List.append_cancel_left (by rw [List.append_nil]; exact e1.symm)
        subst this
        rw [rangeL] at e2
        obtain ⟨d',ι',g1,g2⟩ := fin x _ _ hJ { recOf fn a.tmps ps assign body w.heap.size .ready none with state := .exhausted }
        refine ⟨none,_,run_endLoop hJ.rc (by simp [recOf]),?_⟩
        exact ⟨some r,⟨env,Hp x⟩,d',ι',g1,g2,hk x e2⟩
      · obtain ⟨d',ι',g1,g2⟩ := fin x _ _ hJ { recOf fn a.tmps ps assign body w.heap.size .done (some c) with state := .exhausted }
        refine ⟨some c,_,run_endLoop hJ.rc (by simp [recOf]),?_⟩
        rcases hc with ⟨rfl,rfl⟩ | ⟨id,rfl,rfl⟩
        · exact wpIn_ret ⟨some r,⟨env,Hp x⟩,d',ι',g1,g2,hstop _ x hM⟩
        · exact wpIn_exit ⟨some r,⟨env,Hp x⟩,d',ι',g1,g2,hstop _ x hM⟩
  · rintro O O' I I' W W' ⟨x,rest,e1,e2,hJ⟩ tr hO hI
    exact ⟨x,rest,e1,e2,RgJ.abide _ _ _ _ _ _ hJ tr hO hI⟩
  · rintro O O' I I' W W' ⟨x,e2,c,h1,h2,hJ⟩ tr hO hI
    exact ⟨x,e2,c,h1,h2,RgJ.abide _ _ _ _ _ _ hJ tr hO hI⟩
end
def shut (w : World) : List Nat → World
  | [] => w
  | B :: ms => shut (w.putObj B (.deferred none)) ms
theorem shut_facts : ∀ (ms : List Nat) (w : World),(∀ B,B ∈ ms → w.heap[B]? = some (.deferred (some []))) → ms.Nodup →
    (∀ K,Kept K w (shut w ms)) ∧ (∀ T w00,Trans T w00 w → (∀ B,B ∈ ms → w00.heap.size ≤ B) → Trans T w00 (shut w ms)) ∧
    ∀ (P : Program) (fn : Func) (tm : Array Value) (R : Ending → World → Prop),(∃ v,(results fn tm).run P (shut w ms) = .ok v (shut w ms) ∧ R (.returned v) (shut w ms)) → LeavesInM (Fc none) 0 P fn tm R (ms.map markOf) .returning w
  | [],w,_,_ => ⟨fun K => Kept.refl K w,fun T w00 h _ => h,fun P fn tm R h => h⟩
  | B :: ms,w,hm,hn => by
    have hB := hm B (by simp)
    have hn2 := List.nodup_cons.1 hn
    obtain ⟨f1,f2,f3⟩ := shut_facts ms (w.putObj B (.deferred none)) (fun B' hB' => by
      rw [World.putObj_heap_other (fun e => hn2.1 (by subst e; exact hB'))]
      exact hm B' (List.mem_cons_of_mem _ hB')) hn2.2
    refine ⟨fun K => (Kept.putObj hB rfl).trans (f1 K),fun T w00 h hge => f2 T w00 (h.putObj hB rfl (hge B (by simp))) fun B' hB' => hge B' (List.mem_cons_of_mem _ hB'),fun P fn tm R h => ?_⟩
    exact ⟨(fun h => by cases h),.inl ⟨B,_,rfl,run_takeDeferred hB,f3 P fn tm R h⟩⟩
theorem Spec.ofR {P : Program} {f : FuncId} {fn : Func} {c : Code} {avs : List AV} {H : List (Nat × Blk)} {N : Nat} {R : Type} (rf : R → AV) (Hf : R → List (Nat × Blk)) {rr : R} (hf : P.funcs[f]? = some fn) (hnt : fn.ntmps = N) (hb : fn.body = some c)
    (hc : (fn.name == "runtime.NumGoroutine") = false) (hN : avs.length ≤ N)
    (h : ∀ w0 Zs Zb T0 ι0,AWPF (rgFam P N ι0 rr w0 Zs Zb T0) c (fun e g s' => (e = .ret ∨ e = .normal) ∧ ∃ r',g = some r' ∧ ∀ w0 Zs Zb T0 ι0,Res ⟨P,none,N,[],w0,Zs,Zb,T0,[],ι0⟩ fn s' (rf r') (Hf r')) (some rr) ⟨enum 0 avs,H⟩) : Spec P f [] avs H (rf rr) (Hf rr) := by
  subst hnt
  refine ⟨⟨fn,hf,by simp [hb],hc⟩,fun Zs Zb ι w vs N dfr ro hcore hvs => ?_⟩
  obtain ⟨hl,hv⟩ := hvs
  have hw := h w Zs Zb (ownedBy H ι) ι ⟨[],w,Zs,Zb,ownedBy H ι⟩ ι { tmps := vs.toArray ++ Array.replicate (fn.ntmps - vs.toArray.size) undef,defers := [] } w
    ⟨rfl,Trans.refl _ _,fun _ h => .inl h,fun _ h => .inl h,fun _ h => .inl h,(fun B hB => by cases hB),List.nodup_nil⟩ ?_
  · refine callsIn_of_wp_marks hf hb trivial (wpIn_mono hw fun e a' w' ⟨g,s',d,ι1,hR,rel,he,r',hg',hres⟩ => ?_)
    have hgr := hR.g
    rw [hg'] at hgr
    obtain rfl := Option.some.inj hgr
    have hmk : ∀ B,B ∈ d.ms → w'.heap[B]? = some (.deferred (some [])) := fun B hB => by
      obtain ⟨m1,m2,m3⟩ := hR.marks B hB
      have tr := rel.core.tr
      have : w'.heap[B]? = d.w0.heap[B]? := tr.block B (Array.getElem?_eq_some_iff.1 m1).1 m2
      exact this.trans m1
    obtain ⟨f1,f2,f3⟩ := shut_facts d.ms w' hmk hR.nodup
    have trw : Trans (ownedBy H ι) w w' := hR.tr.comp rel.core.tr fun b hb => hR.own b hb
    have trf := f2 _ _ trw fun B hB => (hR.marks B hB).2.2
    have r2 := rel.anew none (dfr := []) (tm := a'.tmps) rfl (f1 _)
    obtain ⟨v,ι',q1,q2,q3,q4,q5⟩ := hres _ _ _ _ _ ι1 _ _ r2
    have hsz0 : w.heap.size ≤ d.w0.heap.size := hR.tr.size
    have ho1 : ∀ b,ownedBy s'.heap ι1 b → ownedBy H ι b ∨ w.heap.size ≤ b := fun b ⟨t,ht,e⟩ => by
      rcases rel.core.own t b ht e with h | h
      · have h : d.w0.heap.size ≤ b := h
        exact .inr (by omega)
      · exact hR.own b h
    have hz : ∀ β b,zone ⟨P,none,fn.ntmps,[],shut w' d.ms,fun b => zone ((rgFam P fn.ntmps ι r' w Zs Zb (ownedBy H ι)).cx d) s'.heap ι1 w' false b,fun b => zone ((rgFam P fn.ntmps ι r' w Zs Zb (ownedBy H ι)).cx d) s'.heap ι1 w' true b,ownedBy s'.heap ι1,[],ι⟩ (Hf r') ι' (shut w' d.ms) β b →
        zone ⟨P,ro,N,dfr,w,Zs,Zb,ownedBy H ι,[],ι⟩ (Hf r') ι' (shut w' d.ms) β b := by
      intro β b hz
      refine ⟨hz.1,hz.2.1,?_⟩
      have zF : zone ((rgFam P fn.ntmps ι r' w Zs Zb (ownedBy H ι)).cx d) s'.heap ι1 w' false b → Zs b ∨ w.heap.size ≤ b ∨ ownedBy H ι b := fun hz => by
        rcases hz.2.2 with ⟨e0,_⟩ | h | h | h
        · cases e0
        · rcases hR.zs b h with h | h | h
          · exact .inl h
          · exact .inr (.inr h)
          · exact .inr (.inl h)
        · have h : d.w0.heap.size ≤ b := h
          exact .inr (.inl (by omega))
        · rcases hR.own b h with h | h
          · exact .inr (.inr h)
          · exact .inr (.inl h)
      rcases hz.2.2 with ⟨e0,h⟩ | h | h | h
      · rcases h.2.2 with ⟨_,h⟩ | h | h | h
        · rcases hR.zb b h with h | h | h | h
          · exact .inl ⟨e0,h⟩
          · exact .inr (.inl h)
          · exact .inr (.inr (.inr h))
          · exact .inr (.inr (.inl h))
        · rcases hR.zs b h with h | h | h
          · exact .inr (.inl h)
          · exact .inr (.inr (.inr h))
          · exact .inr (.inr (.inl h))
        · have h : d.w0.heap.size ≤ b := h
          exact .inr (.inr (.inl (by show w.heap.size ≤ b; omega)))
        · rcases hR.own b h with h | h
          · exact .inr (.inr (.inr h))
          · exact .inr (.inr (.inl h))
      · exact .inr (zF h)
      · exact absurd hz.1 (Nat.not_lt.2 h)
      · rcases ho1 b h with h | h
        · exact .inr (.inr (.inr h))
        · exact .inr (.inr (.inl h))
    have hfin : ∃ v,(results fn a'.tmps).run P (shut w' d.ms) = .ok v (shut w' d.ms) ∧ (fun e w' => ∃ v ι',e = Ending.returned v ∧ Core ⟨P,ro,N,dfr,w,Zs,Zb,ownedBy H ι,[],ι⟩ (Hf r') ι' w' ∧ VR w' (zone ⟨P,ro,N,dfr,w,Zs,Zb,ownedBy H ι,[],ι⟩ (Hf r') ι' w') ι' (rf r') v ∧ ∀ t,t ∈ ([] : List Nat) → ι' t = ι t) (.returned v) (shut w' d.ms) := by
      refine ⟨v,q1,v,ι',rfl,⟨fun t k hk => ?_,q3.inj,fun t b ht e => ?_,trf⟩,q4.mono (fun _ _ h => h) _ _ hz (fun _ _ _ _ _ h => h) (fun _ _ _ h => h),fun t ht => by cases ht⟩
      · have h0 := q3.blk t k hk
        unfold BlkR at h0 ⊢
        cases hx : ι' t with
        | none => simp only [hx] at h0 ⊢; exact h0
        | some b =>
          simp only [hx] at h0 ⊢
          obtain ⟨cur,p1,p2,p3⟩ := h0
          refine ⟨cur,p1,p2,fun i hi => ?_⟩
          obtain ⟨u,hu,hvv⟩ := p3 i hi
          refine ⟨u,hu,hvv.mono (fun _ _ h => h) _ _ ?_ (fun _ _ _ _ _ h => h) (fun _ _ _ h => h)⟩
          cases k.lst with
          | true => exact fun _ b hb => hz _ _ hb
          | false => exact hz
      · rcases q3.own t b ht e with h | h
        · have h : (shut w' d.ms).heap.size ≤ b := h
          have := trf.size
          exact .inl (by show w.heap.size ≤ b; omega)
        · rcases ho1 b h with h | h
          · exact .inr h
          · exact .inl h
    have key := f3 P fn a'.tmps (fun e w' => ∃ v ι',e = Ending.returned v ∧ Core ⟨P,ro,N,dfr,w,Zs,Zb,ownedBy H ι,[],ι⟩ (Hf r') ι' w' ∧ VR w' (zone ⟨P,ro,N,dfr,w,Zs,Zb,ownedBy H ι,[],ι⟩ (Hf r') ι' w') ι' (rf r') v ∧ ∀ t,t ∈ ([] : List Nat) → ι' t = ι t) hfin
    have ed : a'.defers = d.ms.map markOf := rel.dfr
    rcases he with rfl | rfl
    · show LeavesInM _ _ _ _ _ _ a'.defers _ _
      rw [ed]; exact key
    · show LeavesInM _ _ _ _ _ _ a'.defers _ _
      rw [ed]; exact key
  · refine ⟨by show _ = fn.ntmps; simp [hl]; omega,rfl,?_,⟨hcore.blk,hcore.inj,hcore.own,hcore.tr⟩,fun _ h => by cases h⟩
    intro d v hlk
    rw [look_enum] at hlk
    simp only [Nat.zero_le,if_true,Nat.sub_zero] at hlk
    have hd := (List.getElem?_eq_some_iff.1 hlk).1
    obtain ⟨u,hu,hvr⟩ := hv d hd
    have he : avs[d] = v := by rw [List.getElem?_eq_getElem hd] at hlk; exact Option.some.inj hlk
    rw [he] at hvr
    have : (vs.toArray ++ Array.replicate (fn.ntmps - vs.toArray.size) undef).getD d undef = u := by
      rw [Array.getD_eq_getD_getElem?,Array.getElem?_append_left (by simp; omega)]
      simp [hu]
    simp only [this]
    exact hvr
end Go.AB
namespace Go.AB
open Go
section
variable {E : Type} {P : Program} {N : Nat} {ι0 : Tags} {xs : List E} {Zs Zb : Nat → Prop} {J : List E → (Nat → Prop) → (Nat → Prop) → World → Prop} {Jx : (Nat → Prop) → (Nat → Prop) → World → Prop} {A : Array Oper} {ol : List Oper} {s : St}
theorem ARunY.y0 {l : Nat} {vals : E → List AV} {dst : Nat} {y : Operand} {args : Array Operand} {ats : Array TypeId} {ty : TypeId} {p : String} {ed : Array Edge} {x : E} {r rest : List E} {m : Option (List E)} {s' : Bool → St}
    (hJ : ∀ pre,Abide (J pre)) (hJx : Abide Jx) (hR : RoundOk P l vals xs Zs Zb J Jx) (hyr : (false = false → r = x :: rest ∧ m = some rest) ∧ (false = true → r = [])) (hd : dst < N)
    (hy : ∀ d,Ev ((itFam P N ι0 xs Zs Zb J Jx).cx d) s y (.sc (.func (.yield l) #[] #[]))) (ha : ∀ d,EvV ((itFam P N ι0 xs Zs Zb J Jx).cx d) s args.toList (vals x))
    (t : ∀ b d,ARun ((itFam P N ι0 xs Zs Zb J Jx).cx d) A ol (s.put dst (.sc (.bool b))) (s' b)) :
    ARunY (itFam P N ι0 xs Zs Zb J Jx) A (⟨some dst,.call { callee := .value y,args := args,argTypes := ats },ty,p,ed,none⟩ :: ol) (some r) s (fun b => (ghY false b r rest,s' b)) := by
  refine ARunY.yield (fun d ι a w K Q hH rel hk => ?_) t
  obtain ⟨rfl,_⟩ := hyr.1 rfl
  refine yieldStep hJ hJx hR hd hy ha K Q hH rel fun b d' ι' a' w' hH' r' => hk b d' ι' a' w' ?_ r'
  simp only [ghY]
  exact hH'
end
def rangeB (σ : Nat → Nat) (D1 D2 : List Nat) : Bool := (D1.all fun a => D1.all fun b => !(Nat.beq (σ a) (σ b)) || Nat.beq a b) && D2.all fun t => !(anyT (D1.map σ) t)
def tagB (KB : List Nat) (env : List (Nat × AV)) : Bool := env.all fun p => p.2.tags.all fun t => anyT KB t
theorem mem_of_look {t : Nat} {v : AV} : ∀ {l : List (Nat × AV)},look t l = some v → (t,v) ∈ l
  | [],h => by cases h
  | (k,u) :: l,h => by
    by_cases e : t = k
    · subst e
      rw [look_cons_self] at h
      cases h
      exact List.mem_cons_self
    · rw [look_cons_ne e] at h
      exact List.mem_cons_of_mem _ (mem_of_look h)
section
variable {P : Program} {N : Nat} {ι0 : Tags} {w00 : World} {Zs0 Zb0 T00 : Nat → Prop}
theorem AWPF.range' {σx R E : Type} {r : R} {Q : Exit → Option R → St → Prop} {s : St} {g : Operand} {ps : Array Nat} {assign body : Code} {f : FuncId} {avs cs : List AV} {H : List (Nat × Blk)} {vals : E → List AV} {xs : List E} {σ : Nat → Nat}
    {Hp : σx → List (Nat × Blk)} {Hb : E → σx → List (Nat × Blk)} {step : (σx → Option R) → E → σx → Option R} {k : σx → Option R} {env : List (Nat × AV)} {x0 : σx} {KB : List Nat} {envb : E → σx → List (Nat × AV)} {M : Exit → σx → Prop}
    (hS : ItSpec P f avs H vals xs) (hg : ∀ d,Ev ((rgFam P N ι0 r w00 Zs0 Zb0 T00).cx d) s g (.clo (.func f) [] cs)) (hcs : ∀ d,CvL ((rgFam P N ι0 r w00 Zs0 Zb0 T00).cx d) s σ H false cs avs)
    (hH : AllH (fun t k => look (σ t) s.heap = some (renB σ k)) H) (hb : rangeB σ (dom H) (dom (Hp x0)) = true) (hHp : SubH (Hp x0) s.heap) (henv : SubE env s.env) (htag : tagB KB env = true)
    (hx : rangeL step xs k x0 = some r) (hB : ∀ l,BodyOk P N l KB env Hp Hb step r vals ps assign body envb M)
    (hk : ∀ x,k x = some r → Q .normal (some r) ⟨env,Hp x⟩) (hstop : ∀ e x,M e x → Q e (some r) ⟨env,Hp x⟩) :
    AWPF (rgFam P N ι0 r w00 Zs0 Zb0 T00) (.rangeFunc g ps assign body) Q (some r) s := by
  simp only [rangeB,Bool.and_eq_true,List.all_eq_true] at hb
  refine AWPF.range hS hg hcs (fun t k hl => hH.at hl) (fun a b ha hb' e => ?_) (fun t kk h => hHp.look h) (fun t ht hm => ?_) (fun t v h => henv.look h) (fun t v h t' hf => ?_) hx hB hk hstop
  · have := hb.1 a ha b hb'
    rw [e] at this
    simp only [Nat.beq_refl,Bool.not_true,Bool.false_or,Nat.beq_eq] at this
    exact this
  · have := hb.2 t (has_dom.1 ht)
    rw [anyT_iff.2 hm] at this
    cases this
  · unfold tagB at htag
    rw [List.all_eq_true] at htag
    have h1 := htag (t,v) (mem_of_look h)
    rw [List.all_eq_true] at h1
    exact anyT_iff.1 (h1 t' (AV.tags_of_free hf))
theorem AWPF.rangeG {σx R E : Type} {r r1 : R} {Q : Exit → Option R → St → Prop} {s : St} {g : Operand} {ps : Array Nat} {assign body : Code} {f : FuncId} {avs cs : List AV} {H : List (Nat × Blk)} {vals : E → List AV} {xs : List E} {σ : Nat → Nat}
    {Hp : σx → List (Nat × Blk)} {Hb : E → σx → List (Nat × Blk)} {step : (σx → Option R) → E → σx → Option R} {k : σx → Option R} {env : List (Nat × AV)} {x0 : σx} {KB : List Nat} {envb : E → σx → List (Nat × AV)} {M : Exit → σx → Prop}
    (hS : ItSpec P f avs H vals xs) (hg : ∀ d,Ev ((rgFam P N ι0 r w00 Zs0 Zb0 T00).cx d) s g (.clo (.func f) [] cs)) (hcs : ∀ d,CvL ((rgFam P N ι0 r w00 Zs0 Zb0 T00).cx d) s σ H false cs avs)
    (hH : AllH (fun t k => look (σ t) s.heap = some (renB σ k)) H) (hb : rangeB σ (dom H) (dom (Hp x0)) = true) (hHp : SubH (Hp x0) s.heap) (henv : SubE env s.env) (htag : tagB KB env = true)
    (hx : rangeL step xs k x0 = some r1) (hB : ∀ l,BodyOk P N l KB env Hp Hb step r1 vals ps assign body envb M)
    (hk : ∀ x,k x = some r1 → Q .normal (some r1) ⟨env,Hp x⟩) (hstop : ∀ e x,M e x → Q e (some r1) ⟨env,Hp x⟩) :
    AWPF (rgFam P N ι0 r w00 Zs0 Zb0 T00) (.rangeFunc g ps assign body) Q (some r1) s := by
  intro d ι a w hR rel
  obtain rfl := Option.some.inj hR.g
  exact AWPF.range' hS hg hcs hH hb hHp henv htag hx hB hk hstop d ι a w hR rel
end
end Go.AB
namespace Go.AB
end Go.AB
namespace Go.AB
open Go
def badN (R : List (List Nat)) (T : List Nat) (i : Nat) (S : List Nat) : Bool := anyT S i || S.any (fun k => pre R k i) || T.any (fun k => !anyT S k && pre R i k)
def nextN (T : List Nat) (i : Nat) (S S' : List Nat) : Bool := T.all (fun k => anyT S' k == (Nat.beq k i || anyT S k)) && S'.all (anyT T)
abbrev DNode := List Nat × List (Nat × Blk)
inductive NStep (C : Ctx) (A : Array Oper) (F : List DFact) (R : List (List Nat)) (T : List Nat) (Ns : List DNode) (i : Nat) (o : Oper) (x : DOp) (n : DNode) : Prop
  | bad (h : badN R T i n.1 = true)
  | stay (hT : anyT T i = false) (h : DStep C A o (needOf F x.need) n.2 x.dv x.T n.2)
  | turn {n' : DNode} (q : Nat) (hq : Ns[q]? = some n') (hn : nextN T i n.1 n'.1 = true) (h : DStep C A o (needOf F x.need) n.2 x.dv x.T n'.2)
inductive NSteps (C : Ctx) (A : Array Oper) (F : List DFact) (R : List (List Nat)) (T : List Nat) (Ns : List DNode) : Nat → List Oper → List DOp → Prop
  | nil (i : Nat) : NSteps C A F R T Ns i [] []
  | pure {i : Nat} {o : Oper} {os : List Oper} {x : DOp} {xs : List DOp} (hc : anyT T i = false) (h : ∀ H,DStep C A o (needOf F x.need) H x.dv x.T H)
      (t : NSteps C A F R T Ns (i + 1) os xs) : NSteps C A F R T Ns i (o :: os) (x :: xs)
  | each {i : Nat} {o : Oper} {os : List Oper} {x : DOp} {xs : List DOp} (h : AllL (NStep C A F R T Ns i o x) Ns)
      (t : NSteps C A F R T Ns (i + 1) os xs) : NSteps C A F R T Ns i (o :: os) (x :: xs)
theorem NSteps.at {C : Ctx} {A : Array Oper} {F : List DFact} {R : List (List Nat)} {T : List Nat} {Ns : List DNode} : ∀ {os : List Oper} {xs : List DOp} {i : Nat},NSteps C A F R T Ns i os xs →
    ∀ j o x,os[j]? = some o → xs[j]? = some x → ∀ n,n ∈ Ns → NStep C A F R T Ns (i + j) o x n
  | _,_,_,.nil i,j,o,x,ho,_,_,_ => by simp at ho
  | _,_,i,.pure hc h t,j,o,x,ho,hx,n,hn => by
    cases j with
    | zero => simp at ho hx; subst ho hx; exact .stay hc (h _)
    | succ j =>
      simp at ho hx
      have := t.at j o x ho hx n hn
      rw [show i + 1 + j = i + (j + 1) from by omega] at this
      exact this
  | _,_,i,.each h t,j,o,x,ho,hx,n,hn => by
    cases j with
    | zero => simp at ho hx; subst ho hx; exact h.mem hn
    | succ j =>
      simp at ho hx
      have := t.at j o x ho hx n hn
      rw [show i + 1 + j = i + (j + 1) from by omega] at this
      exact this
theorem DStep.looks {C : Ctx} {A : Array Oper} {o : Oper} {need : List (Nat × AV)} {H H' H2 : List (Nat × Blk)} {dv : Option (Nat × AV)} {T : List Nat} (h : DStep C A o need H dv T H')
    (hl : ∀ t,look t H2 = look t H') : DStep C A o need H dv T H2 := fun E hE => by
  obtain ⟨E',hos,h1,h2⟩ := h E hE
  refine ⟨E',fun ι a w K Q r hk => hos ι a w K Q r fun ι' a' w' r' => ?_,h1,h2⟩
  obtain ⟨ι2,r2⟩ := VC.looks (C := C) (s := ⟨E',H'⟩) (s' := ⟨E',H2⟩) (fun _ _ h => h) (fun t k h => by rw [← hl]; exact h) ι' a' w' r'
  exact hk ι2 a' w' r2
theorem looksOf {H H2 : List (Nat × Blk)} (h1 : SubH H2 H) (h2 : SubH H H2) : ∀ t,look t H2 = look t H := fun t => by
  cases h : look t H2 with
  | some v => exact (h1.look h).symm
  | none =>
    cases h' : look t H with
    | none => rfl
    | some v => rw [h2.look h'] at h; cases h
theorem AWP.drawN {C : Ctx} {Q : Exit → St → Prop} {s s' : St} {id : Nat} {l : List Oper} (hm : C.P.follows .mixedOrders = true) (F : List DFact) (D : List DOp) (T : List Nat) (Ns : List DNode)
    (R : List (List Nat)) (hR : rcheck R 0 l = true) (hchk : dcheck R F [] 0 l D = true) (hborn : BornOk D F) (hbase : BaseOk s.env F) (h0 : Ns[0]? = some ([],s.heap)) (hch : ∀ c,c ∈ T → c < l.length)
    (hsteps : NSteps C l.toArray F R T Ns 0 l D) (hE : ∀ E,DInv F (fun i => decide (i < l.length)) E → SubE s'.env E) (hH : AllL (fun n => T.all (anyT n.1) = true → n.2 = s'.heap) Ns) (hq : Q .normal s') : AWP C (.region id l.toArray true) Q s := by
  intro ι a w r
  obtain ⟨hDl,hD⟩ := dcheck_at hchk
  have hltp : ∀ i o,l[i]? = some o → ∀ j,j ∈ preds o → j < i := by
    intro i o ho j hj
    have hi : i < l.length := (List.getElem?_eq_some_iff.1 ho).1
    obtain ⟨x,hx⟩ : ∃ x,D[i]? = some x := ⟨D[i]'(by omega),List.getElem?_eq_getElem (by omega)⟩
    have hc1 := hD i o x ho hx
    simp only [Nat.zero_add,dcheck1,Bool.and_eq_true] at hc1
    have hp := hc1.1.1.1.1.1
    rw [List.all_eq_true] at hp
    have := hp j hj
    rwa [Nat.blt_eq] at this
  refine wpIn_region_any hm ?_
  let atN : Array Bool → List Nat → Prop := fun listed S => (∀ k,k ∈ S → k ∈ T) ∧ ∀ k,k ∈ T → anyT S k = listed.getD k false
  -- the invariant
  have key : ∀ (fuel : Nat) (listed : Array Bool) (ι : Tags) (a : Act) (w : World) (E : List (Nat × AV)) (S : List Nat) (H : List (Nat × Blk)),
      listed.size = l.length → (∀ i o,l[i]? = some o → listed.getD i false = true → ∀ j,j ∈ preds o → listed.getD j false = true) →
      ((List.range l.length).filter fun i => !listed.getD i false).length ≤ fuel → DInv F (fun i => listed.getD i false) E → atN listed S → (S,H) ∈ Ns →
      Rel C ⟨E,H⟩ ι a w → wpAnyIn (Fc C.r) 0 C.P .any l.toArray (fun e a' w' => ∃ s' ι',Rel C s' ι' a' w' ∧ Q e s') fuel listed a w := by
    intro fuel
    -- if nothing is ready all is done
    have fin : ∀ (listed : Array Bool) (ι : Tags) (a : Act) (w : World) (E : List (Nat × AV)) (S : List Nat) (H : List (Nat × Blk)),listed.size = l.length → DInv F (fun i => listed.getD i false) E →
        atN listed S → (S,H) ∈ Ns → Rel C ⟨E,H⟩ ι a w → Region.ready .any l.toArray listed = [] → ∃ s' ι',Rel C s' ι' a w ∧ Q .normal s' := by
      intro listed ι a w E S H hls hI hst hHc hr hready
      have hall : ∀ i,i < l.length → listed.getD i false = true := by
        intro i
        induction i using Nat.strongRecOn with
        | _ i ih =>
          intro hi
          apply Classical.byContradiction
          intro hn
          obtain ⟨o,ho⟩ : ∃ o,l[i]? = some o := ⟨l[i],List.getElem?_eq_getElem hi⟩
          obtain ⟨x,hx⟩ : ∃ x,D[i]? = some x := ⟨D[i]'(by omega),List.getElem?_eq_getElem (by omega)⟩
          have hc1 := hD i o x ho hx
          simp only [Nat.zero_add,dcheck1,Bool.and_eq_true] at hc1
          have hp := hc1.1.1.1.1.1
          rw [List.all_eq_true] at hp
          have hmem : i ∈ Region.ready .any l.toArray listed := by
            unfold Region.ready
            refine List.mem_filter.2 ⟨by simpa using hi,?_⟩
            have e1 : listed.getD i true = false := by
              have hi' : i < listed.size := by omega
              simp only [Array.getD_eq_getD_getElem?,Array.getElem?_eq_getElem hi',Option.getD_some] at hn ⊢
              simpa using hn
            simp only [e1,Bool.not_false,Bool.true_and,List.getElem?_toArray,ho,Option.map_some,Option.getD_some]
            rw [Array.all_eq_true']
            intro ed hed
            cases hb : Region.binds .any ed with
            | false => rfl
            | true =>
              have hm : ed.on ∈ preds o := by
                unfold preds
                exact List.mem_map.2 ⟨ed,List.mem_filter.2 ⟨Array.mem_toList_iff.2 hed,hb⟩,rfl⟩
              have hlt := hp _ hm
              rw [Nat.blt_eq] at hlt
              simp [ih _ hlt (by omega)]
          rw [hready] at hmem; cases hmem
      have hI' : DInv F (fun i => decide (i < l.length)) E := by
        intro f hf h1 h2
        refine hI f hf (fun j hj => hall j (by simpa using h1 j hj)) (fun k hk => ?_)
        have := h2 k hk
        simp only [decide_eq_false_iff_not,Nat.not_lt] at this
        have hk' : listed.size ≤ k := by omega
        simp [Array.getD_eq_getD_getElem?,Array.getElem?_eq_none hk']
      have hc : H = s'.heap := by
        refine hH.mem hHc ?_
        rw [List.all_eq_true]
        intro k hk
        show anyT S k = true
        rw [hst.2 k hk]
        exact hall k (hch k hk)
      subst hc
      exact ⟨s',ι,hr.weak (s' := s') (fun _ => Iff.rfl) (fun d v hl => .inr ((hE E hI').look hl)) (fun t k hk => ⟨k,hk,rfl,rfl,.inl rfl⟩),hq⟩
    have readyAt : ∀ (listed : Array Bool) i,i ∈ Region.ready .any l.toArray listed → i < l.length ∧ listed.getD i true = false ∧ ∀ o,l[i]? = some o → ∀ j,j ∈ preds o → listed.getD j false = true := by
      intro listed i hi
      obtain ⟨h1,h2⟩ := List.mem_filter.1 hi
      have hlt : i < l.length := by simpa using h1
      simp only [Bool.and_eq_true,Bool.not_eq_true'] at h2
      refine ⟨hlt,h2.1,fun o ho j hj => ?_⟩
      have h3 := h2.2
      simp only [List.getElem?_toArray,ho,Option.map_some,Option.getD_some] at h3
      rw [Array.all_eq_true'] at h3
      obtain ⟨ed,hed,rfl⟩ := List.mem_map.1 hj
      obtain ⟨q1,q2⟩ := List.mem_filter.1 hed
      have h4 := h3 ed (Array.mem_toList_iff.1 q1)
      simpa [q2] using h4
    induction fuel with
    | zero =>
      intro listed ι a w E S H hls hdc hn hI hst hHc hr
      have hready : Region.ready .any l.toArray listed = [] := by
        apply Classical.byContradiction
        intro hne
        obtain ⟨i,hi⟩ := List.exists_mem_of_ne_nil _ hne
        obtain ⟨h1,h2,_⟩ := readyAt listed i hi
        have hf : listed.getD i false = false := by
          have hi' : i < listed.size := by omega
          simp only [Array.getD_eq_getD_getElem?,Array.getElem?_eq_getElem hi',Option.getD_some] at h2 ⊢
          exact h2
        have : i ∈ (List.range l.length).filter fun i => !listed.getD i false := List.mem_filter.2 ⟨by simpa using h1,by simp [hf]⟩
        have := List.length_pos_of_mem this
        omega
      exact ⟨hready,fin listed ι a w E S H hls hI hst hHc hr hready⟩
    | succ fuel ih =>
      intro listed ι a w E S H hls hdc hn hI hst hHc hr
      refine ⟨fun hready => fin listed ι a w E S H hls hI hst hHc hr hready,fun i hi => ?_⟩
      obtain ⟨hlt,h2,h3⟩ := readyAt listed i hi
      have hi' : i < listed.size := by omega
      have hf : listed.getD i false = false := by
        simp only [Array.getD_eq_getD_getElem?,Array.getElem?_eq_getElem hi',Option.getD_some] at h2 ⊢
        exact h2
      obtain ⟨o,ho⟩ : ∃ o,l[i]? = some o := ⟨l[i],List.getElem?_eq_getElem hlt⟩
      obtain ⟨x,hx⟩ : ∃ x,D[i]? = some x := ⟨D[i]'(by omega),List.getElem?_eq_getElem (by omega)⟩
      have hc1 := hD i o x ho hx
      simp only [Nat.zero_add,dcheck1,Bool.and_eq_true] at hc1
      obtain ⟨⟨⟨⟨⟨p1,p2⟩,p3⟩,_⟩,_⟩,_⟩ := hc1
      have hpre0 := h3 o ho
      have hpre : ∀ j,pre R i j = true → listed.getD j false = true := pre_listed (L := fun j => listed.getD j false) hR hltp hdc i hlt h3
      -- an operation that waits for this one has not been
      have hbef : ∀ k,pre R k i = true → listed.getD k false = false := by
        intro k hk
        apply Classical.byContradiction
        intro hn
        have hn' : listed.getD k false = true := by simpa using hn
        have hkl : k < l.length := by
          apply Classical.byContradiction
          intro hge
          have : listed.size ≤ k := by omega
          rw [Array.getD_eq_getD_getElem?,Array.getElem?_eq_none this] at hn'
          cases hn'
        have := pre_listed (L := fun j => listed.getD j false) hR hltp hdc k hkl (fun ok hok j hj => hdc k ok hok hn' j hj) i hk
        rw [hf] at this; cases this
      have hneed : Need (needOf F x.need) E := by
        refine needOf_Need fun n hn f hfn => ?_
        rw [List.all_eq_true] at p2
        have h5 := p2 n hn
        rw [hfn] at h5
        simp only [Bool.and_eq_true] at h5
        refine hI f (List.mem_of_getElem? hfn) (fun j hj => ?_) (fun k hk => ?_)
        · rw [hj] at h5; exact hpre j h5.1
        · have h6 := h5.2
          rw [List.all_eq_true] at h6
          have h7 := h6 k hk
          simp only [Bool.or_eq_true,Nat.beq_eq] at h7
          rcases h7 with h7 | h7
          · subst h7; exact hf
          · exact hbef k h7
      have hL' : ∀ j,(listed.setIfInBounds i true).getD j false = if j = i then true else listed.getD j false := by
        intro j
        simp only [Array.getD_eq_getD_getElem?,Array.getElem?_setIfInBounds]
        by_cases e1 : j = i
        · subst e1; simp [hi']
        · rw [if_neg (fun h => e1 h.symm),if_neg e1]
      have next : ∀ E' H' S' ι' a' w',(∀ d v,x.dv = some (d,v) → look d E' = some v) → (∀ y v,(∀ d v',x.dv = some (d,v') → y ≠ d) → look y E = some v → freeOf x.T v = true → look y E' = some v) →
          atN (listed.setIfInBounds i true) S' → (S',H') ∈ Ns → Rel C ⟨E',H'⟩ ι' a' w' →
          wpAnyIn (Fc C.r) 0 C.P .any l.toArray (fun e a' w' => ∃ s' ι',Rel C s' ι' a' w' ∧ Q e s') fuel (listed.setIfInBounds i true) a' w' := by
        intro E' H' S' ι' a' w' hd hkeep hst' hH' hr'
        refine ih _ ι' a' w' E' S' H' (by simpa using hls) (fun k ok hk hk' j hj => ?_) ?_ ?_ hst' hH' hr'
        · rw [hL'] at hk' ⊢
          by_cases e1 : j = i
          · rw [if_pos e1]
          · rw [if_neg e1]
            by_cases e2 : k = i
            · subst e2; rw [ho] at hk; cases hk; exact hpre0 j hj
            · rw [if_neg e2] at hk'; exact hdc k ok hk hk' j hj
        · have hlt2 : ((List.range l.length).filter fun j => !(listed.setIfInBounds i true).getD j false).length < ((List.range l.length).filter fun j => !listed.getD j false).length := by
            have hmem : i ∈ (List.range l.length).filter fun j => !listed.getD j false := List.mem_filter.2 ⟨by simpa using hlt,by simp only [hf]; rfl⟩
            have hsub : ((List.range l.length).filter fun j => !(listed.setIfInBounds i true).getD j false) = (((List.range l.length).filter fun j => !listed.getD j false).filter fun j => !decide (j = i)) := by
              rw [List.filter_filter]
              refine List.filter_congr fun j _ => ?_
              rw [hL']
              by_cases e1 : j = i
              · simp [e1]
              · simp [e1]
            rw [hsub]
            refine Nat.lt_of_le_of_ne (List.length_filter_le _ _) fun he => ?_
            have := (List.length_filter_eq_length_iff.1 he) i hmem
            simp at this
          omega
        · intro f hfF hb1 hb2
          rw [List.all_eq_true] at p3
          have h5 := p3 f hfF
          simp only [Bool.or_eq_true,Bool.and_eq_true] at h5
          rcases h5 with (h5 | h5) | ⟨h5,h6⟩
          · have h7 : (listed.setIfInBounds i true).getD i false = false := hb2 i (anyT_iff.1 h5)
            rw [hL',if_pos rfl] at h7; cases h7
          · cases hb : f.born with
            | none => rw [hb] at h5; cases h5
            | some j =>
              rw [hb] at h5
              simp only [Bool.or_eq_true,Nat.beq_eq] at h5
              rcases h5 with h5 | h5
              · subst h5
                obtain ⟨x',hx',hdv⟩ := hborn.at hfF j hb
                rw [hx] at hx'; cases hx'
                exact hd _ _ hdv
              · exfalso
                have h7 : (listed.setIfInBounds i true).getD j false = true := hb1 j hb
                rw [hL'] at h7
                by_cases e1 : j = i
                · subst e1
                  have := hpre j h5
                  rw [hf] at this; cases this
                · rw [if_neg e1,hbef j h5] at h7; cases h7
          · by_cases hbi : f.born = some i
            · obtain ⟨x',hx',hdv⟩ := hborn.at hfF i hbi
              rw [hx] at hx'; cases hx'
              exact hd _ _ hdv
            · refine hkeep _ _ (fun d v' hdv e1 => ?_) (hI f hfF (fun j hj => ?_) (fun k hk => ?_)) h6
              · rw [hdv] at h5
                simp only [Bool.not_eq_true'] at h5
                rw [e1] at h5
                rw [Nat.beq_refl] at h5; cases h5
              · have h7 : (listed.setIfInBounds i true).getD j false = true := hb1 j hj
                rw [hL',if_neg (fun e => hbi (by rw [hj,e]))] at h7
                exact h7
              · have h7 : (listed.setIfInBounds i true).getD k false = false := hb2 k hk
                rw [hL'] at h7
                split at h7
                · cases h7
                · exact h7
      have hop : ∀ (K : Act → World → Prop) E' H',OStep C l.toArray o ⟨E,H⟩ ⟨E',H'⟩ → (∀ ι' a' w',Rel C ⟨E',H'⟩ ι' a' w' → K a' w') →
          wpOpIn (Fc C.r) 0 C.P l.toArray (fun e a' w' => ∃ s' ι',Rel C s' ι' a' w' ∧ Q e s') i K a w := by
        intro K E' H' hos hK
        unfold wpOpIn
        simp only [List.getElem?_toArray,ho]
        exact hos ι a w K _ hr hK
      have hS := hsteps.at i o x ho hx (S,H) hHc
      rw [Nat.zero_add] at hS
      cases hS with
      | bad hb =>
        exfalso
        simp only [badN,Bool.or_eq_true] at hb
        rcases hb with (hb | hb) | hb
        · have := hst.1 i (anyT_iff.1 hb)
          have h6 := hst.2 i this
          rw [hb,hf] at h6; cases h6
        · rw [List.any_eq_true] at hb
          obtain ⟨k,hk,hki⟩ := hb
          have h6 := hst.2 k (hst.1 k hk)
          rw [hbef k hki,anyT_iff.2 hk] at h6; cases h6
        · rw [List.any_eq_true] at hb
          obtain ⟨k,hk,hki⟩ := hb
          simp only [Bool.and_eq_true,Bool.not_eq_true'] at hki
          have h6 := hst.2 k hk
          rw [hki.1,hpre k hki.2] at h6; cases h6
      | stay hT hds =>
        obtain ⟨E',hos,hd,hkeep⟩ := hds E hneed
        refine hop _ E' H hos fun ι' a' w' hr' => next E' H S ι' a' w' hd hkeep ⟨hst.1,fun k hk => ?_⟩ hHc hr'
        rw [hL',if_neg (fun e1 => by subst e1; rw [anyT_iff.2 hk] at hT; cases hT)]
        exact hst.2 k hk
      | turn q hq' hn' hds =>
        rename_i n'
        obtain ⟨S',H'⟩ := n'
        obtain ⟨E',hos,hd,hkeep⟩ := hds E hneed
        simp only [nextN,Bool.and_eq_true] at hn'
        obtain ⟨h6,h7⟩ := hn'
        rw [List.all_eq_true] at h6 h7
        refine hop _ E' H' hos fun ι' a' w' hr' => next E' H' S' ι' a' w' hd hkeep ⟨fun k hk => anyT_iff.1 (h7 k hk),fun k hk => ?_⟩ (List.mem_of_getElem? hq') hr'
        have h8 := h6 k hk
        rw [beq_iff_eq] at h8
        rw [h8,hL']
        by_cases e1 : k = i
        · subst e1; simp
        · rw [if_neg e1,beq_ne e1,Bool.false_or]
          exact hst.2 k hk
  refine key l.length (Array.replicate l.length false) ι a _ s.env [] s.heap (by simp) (fun i o _ h => ?_) ?_ ?_ ⟨fun k hk => absurd hk (by simp),fun k _ => ?_⟩ (List.mem_of_getElem? h0) r.drew
  · exfalso
    simp only [Array.getD_eq_getD_getElem?,Array.getElem?_replicate] at h
    split at h <;> simp at h
  · exact Nat.le_trans (List.length_filter_le _ _) (by simp)
  · intro f hf hb _
    refine hbase.at hf ?_
    cases hb' : f.born with
    | none => rfl
    | some j =>
      have := hb j hb'
      simp only [Array.getD_eq_getD_getElem?,Array.getElem?_replicate] at this
      split at this <;> simp at this
  · show anyT [] k = (Array.replicate l.length false).getD k false
    simp only [Array.getD_eq_getD_getElem?,Array.getElem?_replicate]
    split <;> simp [anyT]
end Go.AB
namespace Go.AB
open Go
section
variable {C : Ctx} {d : Nat} {ty : TypeId} {p : String} {e : Array Edge} {g : Option (Nat × Bool)} {s : St}
end
end Go.AB
namespace Go.AB
open Go
section
variable {C : Ctx} {s : St}
theorem VC.cell {t i : Nat} {k : Blk} {v v' : AV} (hk : look t s.heap = some k) (hl : k.lst = false) (hc : k.cells[i]? = some v) (h : ∀ w Z ι u,VR w Z ι v u → VR w Z ι v' u) :
    VC C s ⟨s.env,updH t ⟨k.ty,k.lst,k.cells.set i v'⟩ s.heap⟩ := by
  have hi := (List.getElem?_eq_some_iff.1 hc).1
  refine VC.cellsW hk rfl (by simp) (.inr fun hn => by rw [hn] at hi; cases hi) (fun hn => by rw [hn] at hi; cases hi) fun j hj hj' w Z ι u hZ hv => ?_
  simp only [hl,cond_false] at hv ⊢
  by_cases e : j = i
  · subst e
    have : k.cells[j] = v := by rw [List.getElem?_eq_getElem hj] at hc; exact Option.some.inj hc
    rw [this] at hv
    simp only [List.getElem_set_self]
    exact h _ _ _ _ hv
  · rw [List.getElem_set_ne (fun h => e h.symm)]
    exact hv
theorem VC.cellEq {t i : Nat} {k : Blk} {v v' : AV} (hk : look t s.heap = some k) (hl : k.lst = false) (hc : k.cells[i]? = some v) (h : v = v') :
    VC C s ⟨s.env,updH t ⟨k.ty,k.lst,k.cells.set i v'⟩ s.heap⟩ := VC.cell hk hl hc fun _ _ _ _ hv => h ▸ hv
end
end Go.AB
namespace Go.AB
inductive row8 : List AV → List UInt8 → Prop
  | n : row8 [] []
  | c {a : AV} {c : UInt8} {l : List AV} {l' : List UInt8} (h : a = .sc (.int .u8 (c.toNat : Int))) (t : row8 l l') : row8 (a :: l) (c :: l')
end Go.AB
namespace Go.AB
open Go
end Go.AB
namespace Go.AB
inductive BornL (D : List DOp) : List DFact → Prop
  | n : BornL D []
  | o {slot : Nat} {v : AV} {dies : List Nat} {F : List DFact} (t : BornL D F) : BornL D (⟨slot,v,none,dies⟩ :: F)
  | b {slot j : Nat} {v : AV} {dies : List Nat} {x : DOp} {F : List DFact} (h : D[j]? = some x) (hv : x.dv = some (slot,v)) (t : BornL D F) : BornL D (⟨slot,v,some j,dies⟩ :: F)
theorem BornL.ok {D : List DOp} {F : List DFact} (h : BornL D F) : BornOk D F := by
  induction h with
  | n => trivial
  | o t ih => exact ⟨trivial,ih⟩
  | b h hv t ih => exact ⟨⟨_,h,hv⟩,ih⟩
inductive BaseL (E : List (Nat × AV)) : List DFact → Prop
  | n : BaseL E []
  | o {slot : Nat} {v : AV} {dies : List Nat} {F : List DFact} (h : look slot E = some v) (t : BaseL E F) : BaseL E (⟨slot,v,none,dies⟩ :: F)
  | b {slot j : Nat} {v : AV} {dies : List Nat} {F : List DFact} (t : BaseL E F) : BaseL E (⟨slot,v,some j,dies⟩ :: F)
theorem BaseL.ok {E : List (Nat × AV)} {F : List DFact} (h : BaseL E F) : BaseOk E F := by
  induction h with
  | n => trivial
  | o h t ih => exact ⟨h,ih⟩
  | b t ih => exact ⟨trivial,ih⟩
end Go.AB
namespace Go.AB
open Go
theorem CvL.at {C : Ctx} {s : St} {σ : Nat → Nat} {H : List (Nat × Blk)} {bw : Bool} {vs vs' : List AV} (h : CvL C s σ H bw vs vs') : vs.length = vs'.length ∧ ∀ i (hi : i < vs.length) (hi' : i < vs'.length),Cv C s σ H bw vs[i] vs'[i] := by
  induction h with
  | nil => exact ⟨rfl,fun i hi => absurd hi (by simp)⟩
  | cons h t ih =>
    refine ⟨by simp [ih.1],fun i hi hi' => ?_⟩
    cases i with
    | zero => exact h
    | succ i => exact ih.2 i (by simpa using hi) (by simpa using hi')
theorem Cv.agg {C : Ctx} {s : St} {σ : Nat → Nat} {H : List (Nat × Blk)} {bw : Bool} {cs cs' : List AV} (h : CvL C s σ H bw cs cs') : Cv C s σ H bw (.agg cs) (.agg cs') := by
  intro K ι a w u r hH hv
  obtain ⟨h1,h2⟩ := h.at
  cases hv with
  | agg _ _ _ vs hl hv =>
    exact .agg _ _ _ vs (by omega) fun i hi => h2 i (by omega) hi K ι a w _ r hH (hv i (by omega))
end Go.AB
namespace Go.AB
open Go
theorem boolTF (b : Bool) : b = true ∨ b = false := by cases b <;> simp
section
variable {C : Ctx} {A : Array Oper} {op : Op} {ty : TypeId} {p : String} {e : Array Edge} {j dj : Nat} {b want a0 : Bool} {l : List Oper} {s s1 s2 : St}
theorem ARun.knownT {d : Option Nat} {c : Bool} (hw : ∀ ι a w,Rel C s ι a w → (yielded A a.tmps j == some want) = c) (hc : c = true) (h : AStep C ⟨d,op,ty,p,e,some (j,want)⟩ s s1)
    (t : ARun C A l s1 s2) : ARun C A (⟨d,op,ty,p,e,some (j,want)⟩ :: l) s s2 := fun ι a w Q r hq => by
  refine wpListIn_step fun K hK => ?_
  have hw : Region.wanted ⟨d,op,ty,p,e,some (j,want)⟩ (yielded A a.tmps) = c := hw ι a w r
  rw [hw,if_pos hc]
  exact h ι a w K Q r fun ι' a' w' r' => hK _ _ (t ι' a' w' Q r' hq)
theorem ARun.knownF {d : Nat} {c : Bool} (hw : ∀ ι a w,Rel C s ι a w → (yielded A a.tmps j == some want) = c) (hc : c = false) (hd : d < C.N)
    (t : ARun C A l (s.put d .any) s2) : ARun C A (⟨some d,op,ty,p,e,some (j,want)⟩ :: l) s s2 := fun ι a w Q r hq => by
  refine wpListIn_step fun K hK => ?_
  have hw : Region.wanted ⟨some d,op,ty,p,e,some (j,want)⟩ (yielded A a.tmps) = c := hw ι a w r
  rw [hw,if_neg (by simp [hc])]
  exact ⟨fun _ _ => trivial,hK _ _ (t ι _ w Q (r.putAny hd) hq)⟩
theorem ARun.guardT {d : Option Nat} (hj : (A[j]?).bind (·.dst) = some dj) (hdj : dj < C.N) (hb : look dj s.env = some (.sc (.bool b))) (hc : (bif want then b else !b) = true)
    (h : AStep C ⟨d,op,ty,p,e,some (j,want)⟩ s s1) (t : ARun C A l s1 s2) : ARun C A (⟨d,op,ty,p,e,some (j,want)⟩ :: l) s s2 :=
  .knownT (fun _ _ _ r => wanted1 r hj hdj hb) hc h t
theorem ARun.guardF {d : Nat} (hj : (A[j]?).bind (·.dst) = some dj) (hdj : dj < C.N) (hb : look dj s.env = some (.sc (.bool b))) (hd : d < C.N) (hc : (bif want then b else !b) = false)
    (t : ARun C A l (s.put d .any) s2) : ARun C A (⟨some d,op,ty,p,e,some (j,want)⟩ :: l) s s2 :=
  .knownF (fun _ _ _ r => wanted1 r hj hdj hb) hc hd t
end
section
variable {C : Ctx} {d : Nat} {ty : TypeId} {p : String} {e : Array Edge} {g : Option (Nat × Bool)} {s : St}
theorem AStep.pickT {c x y : Operand} {b : Bool} {v : AV} (hd : d < C.N) (hc : Ev C s c (.sc (.bool b))) (hb : b = true) (hx : Ev C s x v) : AStep C ⟨some d,.pick c x y,ty,p,e,g⟩ s (s.put d v) :=
  .val hd (fun _ h => by cases h) fun ι a w r => ⟨a.eval x,by subst hb; simp [execOp,hc.sc r,asBool],hx ι a w r⟩
theorem AStep.pickF {c x y : Operand} {b : Bool} {v : AV} (hd : d < C.N) (hc : Ev C s c (.sc (.bool b))) (hb : b = false) (hy : Ev C s y v) : AStep C ⟨some d,.pick c x y,ty,p,e,g⟩ s (s.put d v) :=
  .val hd (fun _ h => by cases h) fun ι a w r => ⟨a.eval y,by subst hb; simp [execOp,hc.sc r,asBool],hy ι a w r⟩
end
end Go.AB
namespace Go.AB
open Go
section
variable {C : Ctx} {s : St} {d : Nat} {ty : TypeId} {p : String} {e : Array Edge} {g : Option (Nat × Bool)}
theorem eqPtr_run {P : Program} {w : World} {T E : TypeId} {x : Operand} {o : Option Addr} (hT : P.underlying T = some (.pointer E)) (neg : Bool) :
    (do eqGuard (bif neg then .neq else .eql) T x (.const (.pointer none)) (.pointer o) (.pointer none); binOp (bif neg then .neq else .eql) T (.pointer o) (.pointer none) : Sem Value).run P w = .ok (.bool (bif neg then !o.isNone else o.isNone)) w := by
  have key : (Op.equal T (.pointer o) (.pointer none)).run P w = .ok o.isNone w := by
    have hm : Op.equal T (.pointer o) (.pointer none) = Op.equalIn (Op.maxDepth - 1 + 1) T (.pointer o) (.pointer none) := rfl
    rw [hm]
    cases o <;> simp [Op.equalIn,run_underlying hT]
  cases neg <;> simp [eqGuard,binOp,key]
theorem AStep.ptrNil {x : Operand} {T E U : TypeId} {t off : Nat} (hd : d < C.N) (hx : Ev C s x (.ptr t off)) (hT : C.P.underlying T = some (.pointer E)) (neg : Bool) :
    AStep C ⟨some d,.binOp (bif neg then .neq else .eql) T x (.const (.pointer none)) U,ty,p,e,g⟩ s (s.put d (.sc (.bool neg))) :=
  .val hd (fun _ h => by cases h) fun ι a w r => by
    obtain ⟨b,hu,_⟩ := ptr_inv (hx ι a w r)
    refine ⟨.bool neg,?_,.sc _ _ _⟩
    have := eqPtr_run (w := w) (x := x) (o := some ⟨b,off,none⟩) hT neg
    have hn : a.eval (.const (.pointer none)) = .pointer none := rfl
    simp only [execOp,hu,hn]
    simp only [Sem.run_bind] at this ⊢
    rw [this]
    cases neg <;> simp
end
section
variable {C : Ctx} {A : Array Oper} {op : Op} {ty : TypeId} {p : String} {e : Array Edge} {need : List (Nat × AV)} {H H' : List (Nat × Blk)} {j dj : Nat} {b want a0 : Bool} {dv : Option (Nat × AV)} {T : List Nat}
theorem OStep.off {d : Nat} {c : Bool} {s : St} (hw : ∀ ι a w,Rel C s ι a w → (yielded A a.tmps j == some want) = c) (hc : c = false) (hd : d < C.N) :
    OStep C A ⟨some d,op,ty,p,e,some (j,want)⟩ s (s.put d .any) := fun ι a w K Q r hk => by
  have hw : Region.wanted ⟨some d,op,ty,p,e,some (j,want)⟩ (yielded A a.tmps) = c := hw ι a w r
  rw [hw,if_neg (by simp [hc])]
  exact ⟨fun _ _ => trivial,hk ι _ w (r.putAny hd)⟩
end
end Go.AB
namespace Go.AB
open Go
theorem Rel.grow {C : Ctx} {s : St} {ι : Tags} {a : Act} {w w' : World} (r : Rel C s ι a w) {o : Obj} (hos : w'.os = w.os) (htape : w'.tape = w.tape) (hout : w'.output = w.output) (hh : w'.heap = w.heap.push o) : Rel C s ι a w' := by
  have hold : ∀ b,b < w.heap.size → w'.heap[b]? = w.heap[b]? := fun b hb => by rw [hh,Array.getElem?_push,if_neg (by omega)]
  have hsz : ∀ b n,bsz w b = some n → bsz w' b = some n := by
    intro b n hb
    have hb1 : b < w.heap.size := by
      rcases Nat.lt_or_ge b w.heap.size with h | h
      · exact h
      · simp [bsz,Array.getElem?_eq_none h] at hb
    simp only [bsz,hold b hb1]; exact hb
  have hZ : ∀ β b,zone C s.heap ι w β b → zone C s.heap ι w' β b := fun β b h => ⟨by rw [hh]; simp; exact Nat.lt_succ_of_lt h.1,h.2⟩
  have hcell : ∀ β b o u,zone C s.heap ι w β b → w.cell? ⟨b,o,none⟩ = some u → w'.cell? ⟨b,o,none⟩ = some u := by
    intro β b o u hz hu
    rw [World.cell?_of_block (a := ⟨b,o,none⟩) (hold b hz.1)]; exact hu
  refine ⟨r.size,r.dfr,fun d v hl => (r.env d v hl).mono hsz _ _ hZ hcell (fun _ _ _ h => h),⟨fun t k hk => ?_,r.core.inj,r.core.own,?_⟩,r.stab⟩
  · have h0 := r.core.blk t k hk
    unfold BlkR at h0 ⊢
    cases hx : ι t with
    | none => simp only [hx] at h0 ⊢; exact h0
    | some b =>
      simp only [hx] at h0 ⊢
      obtain ⟨cur,q1,q2,q3⟩ := h0
      refine ⟨cur,by rw [hold b (Array.getElem?_eq_some_iff.1 q1).1]; exact q1,q2,fun i hi => ?_⟩
      obtain ⟨u,hu,hv⟩ := q3 i hi
      refine ⟨u,hu,hv.mono hsz _ _ ?_ ?_ (fun _ _ _ h => h)⟩
      · cases k.lst with
        | true => exact fun _ b hb => hZ _ _ hb
        | false => exact hZ
      · cases k.lst with
        | true => exact fun _ b o u hb => hcell _ b o u hb
        | false => exact hcell
  · have tr := r.core.tr
    exact ⟨hos.trans tr.os,htape.trans tr.tape,hout.trans tr.output,by rw [hh]; simp; exact Nat.le_succ_of_le tr.size,fun k hk hT => by rw [hold k (Nat.lt_of_lt_of_le hk tr.size)]; exact tr.block k hk hT,fun b n e => hsz _ _ (tr.bsz _ _ e)⟩
end Go.AB
namespace Go.AB
open Go
section
variable {C : Ctx} {s : St} {d : Nat} {ty : TypeId} {p : String} {e : Array Edge} {g : Option (Nat × Bool)} {x : Operand} {T E U : TypeId}
theorem AStepE.eqNil0 {β : Bool} {n : Nat} {cells : List AV} (hd : d < C.N) (hx : Ev C s x (.rd β n cells)) (hT : C.P.underlying T = some (.slice E)) :
    AStepE C ⟨some d,.binOp .eql T x (.const (.slice none 0 0)) U,ty,p,e,g⟩ s (fun q => s.put d (.sc (.bool (decide (n = 0 ∧ q = 0))))) := AStepE.eqNil hd hx hT false
theorem AStep.ptrNil0 {t off : Nat} (hd : d < C.N) (hx : Ev C s x (.ptr t off)) (hT : C.P.underlying T = some (.pointer E)) :
    AStep C ⟨some d,.binOp .eql T x (.const (.pointer none)) U,ty,p,e,g⟩ s (s.put d (.sc (.bool false))) := AStep.ptrNil hd hx hT false
theorem AStep.ptrNil1 {t off : Nat} (hd : d < C.N) (hx : Ev C s x (.ptr t off)) (hT : C.P.underlying T = some (.pointer E)) :
    AStep C ⟨some d,.binOp .neq T x (.const (.pointer none)) U,ty,p,e,g⟩ s (s.put d (.sc (.bool true))) := AStep.ptrNil hd hx hT true
end
end Go.AB
namespace Go.AB
open Go
section
variable {C : Ctx} {s : St} {d : Nat} {ty : TypeId} {p : String} {e : Array Edge} {g : Option (Nat × Bool)}
section
variable {T U : TypeId} {x y : Operand} {us vs : List Int} {fs : Array Field} (hd : d < C.N) (hx : Ev C s x (.agg (us.map fun v => .sc (.int .i64 v)))) (hy : Ev C s y (.agg (vs.map fun v => .sc (.int .i64 v))))
  (hT : C.P.underlying T = some (.struct fs)) (hf : FsI C.P 0 fs.toList) (hs : C.P.stoodInHeld T = false) (hG : C.P.eqGuardType C.P.depth T = false) (h1 : us.length = fs.size) (h2 : vs.length = fs.size)
include hd hx hy hT hf hs hG h1 h2
theorem AStep.strCmp0 : AStep C ⟨some d,.binOp .eql T x y U,ty,p,e,g⟩ s (s.put d (.sc (.bool (us == vs)))) := AStep.strCmp hd hx hy hT hf hs hG h1 h2 false
theorem AStep.strCmp1 : AStep C ⟨some d,.binOp .neq T x y U,ty,p,e,g⟩ s (s.put d (.sc (.bool (!(us == vs))))) := AStep.strCmp hd hx hy hT hf hs hG h1 h2 true
end
section
variable {α : Type} [DecidableEq α] {enc : α → List AV} {k : IntKind} {f : α → Int} {T E U : TypeId} {x y : Operand} {xs ys : List α} {n : Nat} (hd : d < C.N) (hx : Ev C s x (.agg (xs.flatMap enc))) (hy : Ev C s y (.agg (ys.flatMap enc)))
    (henc : ∀ y,enc y = [.sc (.int k (f y))]) (hf : ∀ a b,f a = f b → a = b) (hT : C.P.underlying T = some (.array n E)) (hE : C.P.underlying E = some (.int k)) (hz : szOf C.P E 1) (hG : C.P.eqGuardType C.P.depth T = false)
    (h1 : xs.length = n) (h2 : ys.length = n)
include hd hx hy henc hf hT hE hz hG h1 h2
end
end
end Go.AB
namespace Go.AB
open Go
theorem Res.sub {C : Ctx} {fn : Func} {s : St} {r : AV} {H H2 : List (Nat × Blk)} (hs : SubH H2 H) (h : Res C fn s r H) : Res C fn s r H2 := fun ι a w rel => by
  obtain ⟨v,ι',q1,q2,q3,q4,q5⟩ := h ι a w rel
  have hhas : ∀ t,has t H2 → has t H := fun t ⟨k,hk⟩ => ⟨k,hs.look hk⟩
  have hZ : ∀ β b,zone C H ι' w β b → zone C H2 ι' w β b := fun β b hz => ⟨hz.1,fun t ht => hz.2.1 t (hhas t ht),hz.2.2⟩
  refine ⟨v,ι',q1,q2,⟨fun t k hk => ?_,fun t t' b h1 h2 => q3.inj t t' b (hhas t h1) (hhas t' h2),fun t b ht => q3.own t b (hhas t ht),q3.tr⟩,q4.mono (fun _ _ h => h) _ _ hZ (fun _ _ _ _ _ h => h) (fun _ _ _ h => h),q5⟩
  have h0 := q3.blk t k (hs.look hk)
  unfold BlkR at h0 ⊢
  cases hx : ι' t with
  | none => simp only [hx] at h0 ⊢; exact h0
  | some b =>
    simp only [hx] at h0 ⊢
    obtain ⟨cur,p1,p2,p3⟩ := h0
    refine ⟨cur,p1,p2,fun i hi => ?_⟩
    obtain ⟨u,hu,hv⟩ := p3 i hi
    refine ⟨u,hu,hv.mono (fun _ _ h => h) _ _ ?_ (fun _ _ _ _ _ h => h) (fun _ _ _ h => h)⟩
    cases k.lst with
    | true => exact fun _ b hb => hZ _ _ hb
    | false => exact hZ
end Go.AB
namespace Go.AB
open Go
section
variable {C : Ctx} {s : St} {d : Nat} {ty : TypeId} {p : String} {e : Array Edge} {g : Option (Nat × Bool)}
theorem eqFun_run {P : Program} {w : World} {T : TypeId} {A B : Array TypeId} {b : Bool} {x : Operand} {v : Value} {c : Bool} (hT : P.underlying T = some (.func A B b)) (hv : v = .nilFunc ∧ c = true ∨ (∃ f us vs,v = .func f us vs) ∧ c = false) (neg : Bool) :
    (do eqGuard (bif neg then .neq else .eql) T x (.const .nilFunc) v .nilFunc; binOp (bif neg then .neq else .eql) T v .nilFunc : Sem Value).run P w = .ok (.bool (bif neg then !c else c)) w := by
  have key : (Op.equal T v .nilFunc).run P w = .ok c w := by
    have hm : Op.equal T v .nilFunc = Op.equalIn (Op.maxDepth - 1 + 1) T v .nilFunc := rfl
    rw [hm]
    rcases hv with ⟨rfl,rfl⟩ | ⟨⟨f,us,vs,rfl⟩,rfl⟩ <;> simp [Op.equalIn,run_underlying hT]
  rcases hv with ⟨rfl,rfl⟩ | ⟨⟨f,us,vs,rfl⟩,rfl⟩ <;> cases neg <;> simp [eqGuard,binOp,key]
theorem AStep.funNil {x : Operand} {T U : TypeId} {A B : Array TypeId} {b : Bool} {fn : Go.Fn} {a0 c0 : List AV} (hd : d < C.N) (hx : Ev C s x (.clo fn a0 c0)) (hT : C.P.underlying T = some (.func A B b)) (neg : Bool) :
    AStep C ⟨some d,.binOp (bif neg then .neq else .eql) T x (.const .nilFunc) U,ty,p,e,g⟩ s (s.put d (.sc (.bool neg))) :=
  .val hd (fun _ h => by cases h) fun ι a w r => by
    have hh := hx ι a w r
    refine ⟨.bool neg,?_,.sc _ _ _⟩
    obtain ⟨us,vs,hu⟩ : ∃ us vs,a.eval x = .func fn us vs := by
      generalize a.eval x = u at hh
      cases hh
      exact ⟨_,_,rfl⟩
    have := eqFun_run (w := w) (x := x) (v := .func fn us vs) (c := false) hT (.inr ⟨⟨_,_,_,rfl⟩,rfl⟩) neg
    have hn : a.eval (.const .nilFunc) = .nilFunc := rfl
    simp only [execOp,hu,hn]
    simp only [Sem.run_bind] at this ⊢
    rw [this]
    cases neg <;> simp
section
variable {x : Operand} {T U : TypeId} {A B : Array TypeId} {b : Bool}
theorem AStep.funNil0 {fn : Go.Fn} {a0 c0 : List AV} (hd : d < C.N) (hx : Ev C s x (.clo fn a0 c0)) (hT : C.P.underlying T = some (.func A B b)) :
    AStep C ⟨some d,.binOp .eql T x (.const .nilFunc) U,ty,p,e,g⟩ s (s.put d (.sc (.bool false))) := AStep.funNil hd hx hT false
end
end
end Go.AB
namespace Go.AB
open Go
theorem cells_part {α : Type} {enc : α → List AV} {sz : Nat} (henc : ∀ y,(enc y).length = sz) {xs : List α} {j : Int} {y : α} (hy : getIdx xs j = some y) (o n : Nat) (ho : o + n ≤ sz) :
    ((xs.flatMap enc).drop (0 + j.toNat * sz + o)).take n = ((enc y).drop o).take n := by
  have h := cells_at henc hy
  have e : ((((xs.flatMap enc).drop (0 + j.toNat * sz)).take sz).drop o).take n = ((enc y).drop o).take n := by rw [h]
  rw [List.drop_take,List.take_take,List.drop_drop,Nat.min_eq_left (by omega)] at e
  exact e
end Go.AB
namespace Go.AB
open Go
theorem nohas {t : Nat} {H : List (Nat × Blk)} (h : (look t H).isNone = true) : ¬ has t H := by
  rintro ⟨k,hk⟩
  rw [hk] at h
  cases h
end Go.AB
namespace Go.AB
open Go
section
variable {C : Ctx} {s : St} {d : Nat} {ty : TypeId} {p : String} {e : Array Edge} {g : Option (Nat × Bool)}
end
end Go.AB
