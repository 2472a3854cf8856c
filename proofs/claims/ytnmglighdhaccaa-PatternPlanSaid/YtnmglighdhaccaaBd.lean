import Derived.Test.YtnmglighdhaccaaBc
import Derived.Laws.IdiomStrings
namespace Go.AB
open Go
def rangeL {σ R E : Type} (step : (σ → Option R) → E → σ → Option R) : List E → (σ → Option R) → σ → Option R
  | [],k => k
  | e :: l,k => step (rangeL step l k) e
theorem zone_keep {C : Ctx} {H : List (Nat × Blk)} {ι : Tags} {w : World} (h : Core C H ι w) {β : Bool} {b : Nat} (hb : b < C.w0.heap.size) (hT : ¬ C.T0 b) (hz : (β = true ∧ C.Zb b) ∨ C.Zs b) : zone C H ι w β b := by
  refine ⟨Nat.lt_of_lt_of_le hb h.tr.size,fun t ht e => ?_,?_⟩
  · rcases h.own t b ht e with h1 | h1
    · omega
    · exact hT h1
  · rcases hz with h1 | h1
    · exact .inl h1
    · exact .inr (.inl h1)
structure RgJ (P : Program) (N : Nat) (KB : List Nat) (ιs : Tags) (env : List (Nat × AV)) (tm : Array Value) (Hx : List (Nat × Blk)) (ws : World) (own0 : Nat → Prop) (z0 : Bool → Nat → Prop) (l D : Nat) (rec : Loop)
    (O I : Nat → Prop) (W : World) : Prop where
  st : ∃ ι Zs Zb,Rel ⟨P,none,N,[],W,Zs,Zb,ownedBy Hx ι,KB,ιs⟩ ⟨env,Hx⟩ ι ⟨tm,[]⟩ W ∧ (∀ b,ownedBy Hx ι b → ¬ I b ∧ ¬ O b ∧ (own0 b ∨ ws.heap.size ≤ b)) ∧ (∀ b,Zs b ∨ Zb b → b < W.heap.size ∧ ¬ O b) ∧
    (∀ b,Zs b → z0 false b ∨ own0 b ∨ ws.heap.size ≤ b) ∧ (∀ b,Zb b → z0 true b ∨ z0 false b ∨ own0 b ∨ ws.heap.size ≤ b)
  rc : W.heap[l]? = some (.loop rec)
  mark : W.heap[D]? = some (.deferred (some []))
  lO : ¬ O l ∧ ¬ O D
  lws : ws.heap.size ≤ l ∧ ws.heap.size ≤ D ∧ l ≠ D
  oo : ∀ b,O b → own0 b ∨ ws.heap.size ≤ b
  oi : ∀ b,I b → own0 b ∨ ws.heap.size ≤ b
  tr : Trans own0 ws W
section
variable {P : Program} {N : Nat} {KB : List Nat} {ιs : Tags} {env : List (Nat × AV)} {tm : Array Value} {Hx : List (Nat × Blk)} {ws : World} {own0 : Nat → Prop} {z0 : Bool → Nat → Prop} {l D : Nat} {rec : Loop}
theorem zone_at {P : Program} {r : Option Nat} {N : Nat} {dfr : List Deferred} {W : World} {Zs Zb : Nat → Prop} {KB : List Nat} {ιs : Tags} {Hx : List (Nat × Blk)} {ι : Tags} {β : Bool} {b : Nat}
    (h : zone ⟨P,r,N,dfr,W,Zs,Zb,ownedBy Hx ι,KB,ιs⟩ Hx ι W β b) : (β = true ∧ Zb b) ∨ Zs b := by
  obtain ⟨h1,h2,h3⟩ := h
  rcases h3 with h3 | h3 | h3 | ⟨t,ht,e⟩
  · exact .inl h3
  · exact .inr h3
  · exact absurd h1 (Nat.not_lt.2 h3)
  · exact absurd e (h2 t ht)
theorem Trans.comp {T T' : Nat → Prop} {w w1 w2 : World} (h : Trans T w w1) (k : Trans T' w1 w2) (hT : ∀ b,T' b → T b ∨ w.heap.size ≤ b) : Trans T w w2 :=
  ⟨k.os.trans h.os,k.tape.trans h.tape,k.output.trans h.output,Nat.le_trans h.size k.size,fun b hb hn => by
    rw [k.block b (Nat.lt_of_lt_of_le hb h.size) (fun h1 => by
      rcases hT b h1 with h2 | h2
      · exact hn h2
      · omega),h.block b hb hn],fun b n e => k.bsz _ _ (h.bsz _ _ e)⟩
theorem Trans.putObj {T : Nat → Prop} {w w1 : World} (h : Trans T w w1) {l : Nat} {o o' : Obj} (hl : w1.heap[l]? = some o) (ho : o.isCells = false) (hw : w.heap.size ≤ l) : Trans T w (w1.putObj l o') :=
  ⟨h.os,h.tape,h.output,by simpa using h.size,fun b hb hn => by
    rw [World.putObj_heap_other (by omega)]; exact h.block b hb hn,fun b n e => bsz_putObj hl ho _ _ (h.bsz _ _ e)⟩
theorem RgJ.abide : Abide (RgJ P N KB ιs env tm Hx ws own0 z0 l D rec) := by
  intro O O' I I' W W' hJ tr hO hI
  obtain ⟨ι,Zs,Zb,r,h1,h2,h3,h4⟩ := hJ.st
  have hlt : ∀ b,ownedBy Hx ι b → b < W.heap.size := fun b hb => r.core.lt hb
  have hz : ∀ β b,zone ⟨P,none,N,[],W,Zs,Zb,ownedBy Hx ι,KB,ιs⟩ Hx ι W β b → b < W.heap.size ∧ ¬ O b := fun β b h => by
    rcases zone_at h with ⟨_,h⟩ | h
    · exact h2 b (.inr h)
    · exact h2 b (.inl h)
  have kept : Kept (fun b => ownedBy Hx ι b ∨ zone ⟨P,none,N,[],W,Zs,Zb,ownedBy Hx ι,KB,ιs⟩ Hx ι W false b ∨ zone ⟨P,none,N,[],W,Zs,Zb,ownedBy Hx ι,KB,ιs⟩ Hx ι W true b) W W' :=
    tr.kept fun b _ hb => by
      rcases hb with hb | hb | hb
      · exact (h1 b hb).2.1
      · exact (hz _ b hb).2
      · exact (hz _ b hb).2
  have r2 := r.anew none (dfr := []) (tm := tm) rfl kept
  have hlW : l < W.heap.size := (Array.getElem?_eq_some_iff.1 hJ.rc).1
  have hDW : D < W.heap.size := (Array.getElem?_eq_some_iff.1 hJ.mark).1
  have hO' : ∀ b,b < W.heap.size → ¬ O b → ¬ O' b := fun b hb hn h => by
    rcases hO b h with h | h
    · exact hn h
    · omega
  refine ⟨⟨ι,_,_,r2,fun b hb => ⟨fun hi => ?_,hO' b (hlt b hb) (h1 b hb).2.1,(h1 b hb).2.2⟩,fun b hb => ?_,fun b hb => ?_,fun b hb => ?_⟩,?_,?_,⟨hO' l hlW hJ.lO.1,hO' D hDW hJ.lO.2⟩,hJ.lws,fun b hb => ?_,fun b hb => ?_,?_⟩
  · rcases (hI b).1 hi with h | h
    · exact (h1 b hb).1 h
    · have := hlt b hb; omega
  · have : b < W.heap.size ∧ ¬ O b := by
      rcases hb with hb | hb
      · exact hz _ b hb
      · exact hz _ b hb
    exact ⟨Nat.lt_of_lt_of_le this.1 tr.size,hO' b this.1 this.2⟩
  · rcases zone_at hb with ⟨h,_⟩ | h
    · cases h
    · exact h3 b h
  · rcases zone_at hb with ⟨_,h⟩ | h
    · exact h4 b h
    · exact .inr (h3 b h)
  · rw [tr.block l hlW hJ.lO.1]; exact hJ.rc
  · rw [tr.block D hDW hJ.lO.2]; exact hJ.mark
  · rcases hO b hb with h | h
    · exact hJ.oo b h
    · exact .inr (Nat.le_trans hJ.tr.size h)
  · rcases (hI b).1 hb with h | h
    · exact hJ.oi b h
    · exact .inr (Nat.le_trans hJ.tr.size h.1)
  · refine hJ.tr.comp tr fun b hb => hJ.oo b hb
end
def puts : St → List (Nat × AV) → St
  | s,[] => s
  | s,(d,v) :: l => puts (s.put d v) l
theorem Rel.puts {C : Ctx} {ι : Tags} {w : World} : ∀ (ps : List Nat) (vs : List AV) (us : List Value) {s : St} {tm : Array Value},Rel C s ι ⟨tm,[]⟩ w → (∀ p,p ∈ ps → p < C.N) → vs.length = ps.length → VRs w (zone C s.heap ι w) ι vs us →
    Rel C (puts s (ps.zip vs)) ι ⟨(ps.zip us).foldl (fun t q => t.setIfInBounds q.1 q.2) tm,[]⟩ w
  | [],vs,us,s,tm,r,_,_,_ => by simpa [Go.AB.puts] using r
  | p :: ps,[],us,s,tm,r,_,hl,_ => by simp at hl
  | p :: ps,v :: vs,us,s,tm,r,hp,hl,hv => by
    obtain ⟨h1,h2⟩ := hv
    cases us with
    | nil => simp at h1
    | cons u us =>
      obtain ⟨u',hu,hvr⟩ := h2 0 (by simp)
      simp at hu
      subst hu
      have r2 := r.put (d := p) (v := v) (u := u) (hp p (by simp)) hvr
      have hr2 : Rel C (s.put p v) ι ⟨tm.setIfInBounds p u,[]⟩ w := r2
      refine Rel.puts ps vs us hr2 (fun q hq => hp q (List.mem_cons_of_mem _ hq)) (by simpa using hl) ⟨by simpa using h1,fun i hi => ?_⟩
      obtain ⟨x,hx,hx2⟩ := h2 (i + 1) (by simpa using hi)
      exact ⟨x,by simpa using hx,hx2⟩
theorem owned_lt {C : Ctx} {H : List (Nat × Blk)} {ι : Tags} {w : World} (h : Core C H ι w) {b : Nat} (hb : ownedBy H ι b) : ∃ c ty n,w.heap[b]? = some (.cells c ty n) := by
  obtain ⟨t,⟨k,hk⟩,e⟩ := hb
  have := h.blk t k hk
  unfold BlkR at this
  rw [e] at this
  obtain ⟨cur,q,_⟩ := this
  exact ⟨_,_,_,q⟩
section
variable {P : Program} {N : Nat} {KB : List Nat} {ιs : Tags} {env : List (Nat × AV)} {tm : Array Value} {ws : World} {own0 : Nat → Prop} {z0 : Bool → Nat → Prop} {l D : Nat}
variable {σ R E : Type} {Hp : σ → List (Nat × Blk)} {Hb : E → σ → List (Nat × Blk)} {step : (σ → Option R) → E → σ → Option R} {k : σ → Option R} {r : R} {vals : E → List AV} {ps : Array Nat} {assign body : Code} {envb : E → σ → List (Nat × AV)} {M : Exit → σ → Prop} {fn : FuncId}
def recOf (fn : FuncId) (tm : Array Value) (ps : Array Nat) (assign body : Code) (D : Nat) (st : LoopState) (pe : Option Code) : Loop := { state := st,pending := pe,fn := fn,tmps := tm,params := ps,assign := assign,body := body,defers := D }
structure BodyOk (P : Program) (N l : Nat) (KB : List Nat) (env : List (Nat × AV)) {σ R E : Type} (Hp : σ → List (Nat × Blk)) (Hb : E → σ → List (Nat × Blk)) (step : (σ → Option R) → E → σ → Option R) (r : R) (vals : E → List AV) (ps : Array Nat) (assign body : Code)
    (envb : E → σ → List (Nat × AV)) (M : Exit → σ → Prop) : Prop where
  hps : ∀ p,p ∈ ps.toList → p < N
  hvl : ∀ e,(vals e).length = ps.size
  assign : ∀ w0 Zs Zb T0 ι0 x e,AWP ⟨P,some l,N,[],w0,Zs,Zb,T0,KB,ι0⟩ assign (fun e' s' => e' = .normal ∧ VC ⟨P,some l,N,[],w0,Zs,Zb,T0,KB,ι0⟩ s' ⟨envb e x,Hb e x⟩) (puts ⟨env,Hp x⟩ (ps.toList.zip (vals e)))
  body : ∀ w0 Zs Zb T0 ι0 nx x e,step nx e x = some r → AWP ⟨P,some l,N,[],w0,Zs,Zb,T0,KB,ι0⟩ body (fun e' s' => ∃ x',VC ⟨P,some l,N,[],w0,Zs,Zb,T0,KB,ι0⟩ s' ⟨[],Hp x'⟩ ∧
    ((e' = .normal ∧ nx x' = some r) ∨ ((e' = .ret ∨ ∃ id,e' = .exit id) ∧ M e' x'))) ⟨envb e x,Hb e x⟩
theorem RgJ.round {xs : List E} (hz0 : ∀ β b,z0 β b → ¬ own0 b ∧ b < ws.heap.size) (htag : ∀ t v,look t env = some v → ∀ t',AV.free t' v = false → t' ∈ KB)
    (hB : BodyOk P N l KB env Hp Hb step r vals ps assign body envb M) :
    RoundOk P l vals xs (fun b => z0 false b) (fun b => z0 true b)
      (fun pre O I W => ∃ x rest,xs = pre ++ rest ∧ rangeL step rest k x = some r ∧ RgJ P N KB ιs env tm (Hp x) ws own0 z0 l D (recOf fn tm ps assign body D .ready none) O I W)
      (fun O I W => ∃ x e2 c,((e2 = .ret ∧ c = Code.ret) ∨ ∃ id,e2 = .exit id ∧ c = .exit id) ∧ M e2 x ∧ RgJ P N KB ιs env tm (Hp x) ws own0 z0 l D (recOf fn tm ps assign body D .done (some c)) O I W) := by
  rintro pre e rest0 O I W Z us exs ⟨x,rest,exs',hx,hJ⟩ hOI hIlt hZ hvs
  have hrest : rest = e :: rest0 := List.append_cancel_left (exs'.symm.trans exs)
  subst hrest
  rw [rangeL] at hx
  obtain ⟨ι,Zs,Zb,r0,h1,h2,h3,h4⟩ := hJ.st
  have hlW : l < W.heap.size := (Array.getElem?_eq_some_iff.1 hJ.rc).1
  have hDW : D < W.heap.size := (Array.getElem?_eq_some_iff.1 hJ.mark).1
  have notCells : ∀ {w : World} {b : Nat} {o : Obj},w.heap[b]? = some o → o.isCells = false → ∀ {c ty n},w.heap[b]? ≠ some (.cells c ty n) := by
    intro w b o h ho c ty n h'
    rw [h] at h'
    cases h'
    simp [Obj.isCells] at ho
  have own_l : ∀ {C : Ctx} {H : List (Nat × Blk)} {ι : Tags} {w : World} {b : Nat} {o : Obj},Core C H ι w → w.heap[b]? = some o → o.isCells = false → ¬ ownedBy H ι b := by
    intro C H ι w b o hc h ho hb
    obtain ⟨c,ty,n,h'⟩ := owned_lt hc hb
    exact notCells h ho h'
  -- the round's first context
  let C1 : Ctx := ⟨P,some l,N,[],W,fun b => Zs b ∨ Z false b,fun b => Zb b ∨ Z true b,ownedBy (Hp x) ι,KB,ιs⟩
  have hZown : ∀ β b,Z β b → ¬ ownedBy (Hp x) ι b := by
    intro β b hz ho
    obtain ⟨_,_,h⟩ := hZ β b hz
    rcases h with h | ⟨_,h⟩ | h
    · have := hz0 _ _ h
      rcases (h1 b ho).2.2 with h5 | h5
      · exact this.1 h5
      · omega
    · have := hz0 _ _ h
      rcases (h1 b ho).2.2 with h5 | h5
      · exact this.1 h5
      · omega
    · exact (h1 b ho).1 h
  have hzone1 : ∀ β b,zone ⟨P,none,N,[],W,Zs,Zb,ownedBy (Hp x) ι,KB,ιs⟩ (Hp x) ι W β b → zone C1 (Hp x) ι W β b := by
    intro β b hz
    refine ⟨hz.1,hz.2.1,?_⟩
    rcases zone_at hz with ⟨e1,h⟩ | h
    · exact .inl ⟨e1,.inl h⟩
    · exact .inr (.inl (.inl h))
  have hzoneZ : ∀ β b,Z β b → zone C1 (Hp x) ι W β b := by
    intro β b hz
    refine ⟨(hZ β b hz).1,fun t ht e1 => hZown β b hz ⟨t,ht,e1⟩,?_⟩
    cases β with
    | true => exact .inl ⟨rfl,.inr hz⟩
    | false => exact .inr (.inl (.inr hz))
  have r1 : Rel C1 ⟨env,Hp x⟩ ι ⟨tm,[]⟩ W := by
    refine ⟨r0.size,rfl,fun d v hl => (r0.env d v hl).mono (fun _ _ h => h) _ _ hzone1 (fun _ _ _ _ _ h => h) (fun _ _ _ h => h),⟨fun t kk hk => ?_,r0.core.inj,r0.core.own,Trans.refl _ _⟩,r0.stab⟩
    have h0 := r0.core.blk t kk hk
    unfold BlkR at h0 ⊢
    cases hxx : ι t with
    | none => simp only [hxx] at h0 ⊢; exact h0
    | some b =>
      simp only [hxx] at h0 ⊢
      obtain ⟨cur,q1,q2,q3⟩ := h0
      refine ⟨cur,q1,q2,fun i hi => ?_⟩
      obtain ⟨u,hu,hv⟩ := q3 i hi
      refine ⟨u,hu,hv.mono (fun _ _ h => h) _ _ ?_ (fun _ _ _ _ _ h => h) (fun _ _ _ h => h)⟩
      cases kk.lst with
      | true => exact fun _ b hb => hzone1 _ _ hb
      | false => exact hzone1
  have hvs1 : VRs W (zone C1 (Hp x) ι W) ι (vals e) us := ⟨hvs.1,fun i hi => by
    obtain ⟨u,hu,hv⟩ := hvs.2 i hi
    exact ⟨u,hu,hv.mono (fun _ _ h => h) _ _ hzoneZ (fun _ _ _ _ _ h => h) (fun t b _ h => by cases h)⟩⟩
  have r2 := Rel.puts (ps.toList) (vals e) us r1 hB.hps (by rw [hB.hvl]; simp) hvs1
  have husz : us.toArray.size = ps.size := by rw [List.size_toArray,hvs.1,hB.hvl]
  have hy := run_yield (P := P) (args := us.toArray) hJ.rc (by simpa [recOf] using husz)
  have hfold : (ps.zip us.toArray).foldl (fun tmps q => tmps.setIfInBounds q.1 q.2) tm = (ps.toList.zip us).foldl (fun t q => t.setIfInBounds q.1 q.2) tm := by
    rw [← Array.foldl_toList]
    simp
  refine ⟨fn,_,assign,body,hy,roundIn_of_wpIn trivial ?_⟩
  have ha := hB.assign W (fun b => Zs b ∨ Z false b) (fun b => Zb b ∨ Z true b) (ownedBy (Hp x) ι) ιs x e ι ⟨(ps.toList.zip us).foldl (fun t q => t.setIfInBounds q.1 q.2) tm,[]⟩ W r2
  rw [show (Array.zip (recOf fn tm ps assign body D .ready none).params us.toArray).foldl (fun tmps x => match x with | (t,a) => tmps.setIfInBounds t a) (recOf fn tm ps assign body D .ready none).tmps = _ from hfold]
  refine wpIn_mono ha ?_
  rintro e1 a1 w1 ⟨s1,ι1,r3,rfl,hvc⟩
  obtain ⟨ι2,r4⟩ := hvc ι1 a1 w1 r3
  have tr1 : Trans (ownedBy (Hp x) ι) W w1 := r4.core.tr
  have nl : ¬ ownedBy (Hp x) ι l := own_l r0.core hJ.rc rfl
  have nD : ¬ ownedBy (Hp x) ι D := own_l r0.core hJ.mark rfl
  have hl1 : w1.heap[l]? = some (.loop (recOf fn tm ps assign body D .ready none)) := by rw [tr1.block l hlW nl]; exact hJ.rc
  have hD1 : w1.heap[D]? = some (.deferred (some [])) := by rw [tr1.block D hDW nD]; exact hJ.mark
  refine ⟨_,run_beginRound hl1 rfl,?_⟩
  have kp1 : ∀ B,Kept B w1 (w1.putObj l (.loop { recOf fn tm ps assign body D .ready none with state := .busy })) := fun B => Kept.putObj hl1 rfl
  have hl2 : (w1.putObj l (.loop { recOf fn tm ps assign body D .ready none with state := .busy })).heap[l]? = some (.loop { recOf fn tm ps assign body D .ready none with state := .busy }) := World.putObj_heap_same (Array.getElem?_eq_some_iff.1 hl1).1
  have hD2 : (w1.putObj l (.loop { recOf fn tm ps assign body D .ready none with state := .busy })).heap[D]? = some (.deferred (some [])) := (World.putObj_heap_other hJ.lws.2.2.symm).trans hD1
  have sz2 : (w1.putObj l (.loop { recOf fn tm ps assign body D .ready none with state := .busy })).heap.size = w1.heap.size := by simp
  have tr2 : Trans own0 ws (w1.putObj l (.loop { recOf fn tm ps assign body D .ready none with state := .busy })) := (hJ.tr.comp tr1 fun b hb => (h1 b hb).2.2).putObj hl1 rfl hJ.lws.1
  generalize w1.putObj l (.loop { recOf fn tm ps assign body D .ready none with state := .busy }) = w2 at kp1 hl2 hD2 sz2 tr2 ⊢
  have r5 := r4.anew (some l) (dfr := []) (tm := a1.tmps) rfl (kp1 _)
  have ea : a1 = ⟨a1.tmps,[]⟩ := by
    have := r4.dfr
    obtain ⟨u,v⟩ := a1
    simp only at this
    subst this
    rfl
  rw [ea]
  have hb := hB.body w2 (fun b => zone C1 (Hb e x) ι2 w1 false b) (fun b => zone C1 (Hb e x) ι2 w1 true b) (ownedBy (Hb e x) ι2) ιs (rangeL step rest0 k) x e hx ι2 ⟨a1.tmps,[]⟩ w2 r5
  refine wpIn_mono hb ?_
  rintro e3 a3 w3 ⟨s3,ι3',r6,x',hvc3,hend⟩
  obtain ⟨ι3,r7⟩ := hvc3 ι3' a3 w3 r6
  have tr3 : Trans (ownedBy (Hb e x) ι2) w2 w3 := r7.core.tr
  have hws : ws.heap.size ≤ W.heap.size := hJ.tr.size
  have sz1 : W.heap.size ≤ w1.heap.size := tr1.size
  have sz3 : w2.heap.size ≤ w3.heap.size := tr3.size
  have o12 : ∀ b,ownedBy (Hb e x) ι2 b → W.heap.size ≤ b ∨ ownedBy (Hp x) ι b := by
    rintro b ⟨t,ht,et⟩
    exact r4.core.own t b ht et
  have o23 : ∀ b,ownedBy (Hp x') ι3 b → w2.heap.size ≤ b ∨ ownedBy (Hb e x) ι2 b := by
    rintro b ⟨t,ht,et⟩
    exact r7.core.own t b ht et
  have nl2 : ¬ ownedBy (Hb e x) ι2 l := own_l r5.core hl2 rfl
  have nD2 : ¬ ownedBy (Hb e x) ι2 D := own_l r5.core hD2 rfl
  have hl3 : w3.heap[l]? = some (.loop { recOf fn tm ps assign body D .ready none with state := .busy }) := by rw [tr3.block l (by omega) nl2]; exact hl2
  have hD3 : w3.heap[D]? = some (.deferred (some [])) := by rw [tr3.block D (by omega) nD2]; exact hD2
  have zc1 : ∀ β b,zone C1 (Hb e x) ι2 w1 β b → ¬ O b ∧ (β = false → z0 false b ∨ own0 b ∨ ws.heap.size ≤ b) ∧ (z0 true b ∨ z0 false b ∨ own0 b ∨ ws.heap.size ≤ b) := by
    intro β b hz
    have fromZ : ∀ β',Z β' b → ¬ O b ∧ (β' = false → z0 false b ∨ own0 b ∨ ws.heap.size ≤ b) ∧ (z0 true b ∨ z0 false b ∨ own0 b ∨ ws.heap.size ≤ b) := by
      intro β' h
      obtain ⟨_,q1,q2⟩ := hZ β' b h
      refine ⟨q1,fun e0 => ?_,?_⟩
      · rcases q2 with q | ⟨q,_⟩ | q
        · exact .inl q
        · rw [e0] at q; cases q
        · exact .inr (hJ.oi b q)
      · rcases q2 with q | ⟨_,q⟩ | q
        · exact .inr (.inl q)
        · exact .inl q
        · exact .inr (.inr (hJ.oi b q))
    rcases hz.2.2 with ⟨e0,h | h⟩ | (h | h) | h | h
    · exact ⟨(h2 b (.inr h)).2,(fun e1 => by rw [e0] at e1; cases e1),h4 b h⟩
    · have := fromZ true h
      exact ⟨this.1,(fun e1 => by rw [e0] at e1; cases e1),this.2.2⟩
    · exact ⟨(h2 b (.inl h)).2,fun _ => h3 b h,.inr (h3 b h)⟩
    · have := fromZ false h
      exact ⟨this.1,fun _ => this.2.1 rfl,this.2.2⟩
    · have h : W.heap.size ≤ b := h
      exact ⟨fun ho => by have := hIlt b (hOI b ho); omega,fun _ => .inr (.inr (by omega)),.inr (.inr (.inr (by omega)))⟩
    · have := h1 b h
      exact ⟨this.2.1,fun _ => .inr this.2.2,.inr (.inr this.2.2)⟩
  let C2 : Ctx := ⟨P,some l,N,[],w2,fun b => zone C1 (Hb e x) ι2 w1 false b,fun b => zone C1 (Hb e x) ι2 w1 true b,ownedBy (Hb e x) ι2,KB,ιs⟩
  have zc2 : ∀ β b,zone C2 (Hp x') ι3 w3 β b → ¬ O b ∧ (β = false → z0 false b ∨ own0 b ∨ ws.heap.size ≤ b) ∧ (z0 true b ∨ z0 false b ∨ own0 b ∨ ws.heap.size ≤ b) := by
    intro β b hz
    rcases hz.2.2 with ⟨e0,h⟩ | h | h | h
    · have := zc1 true b h
      exact ⟨this.1,(fun e1 => by rw [e0] at e1; cases e1),this.2.2⟩
    · have := zc1 false b h
      exact ⟨this.1,fun _ => this.2.1 rfl,this.2.2⟩
    · have h : w2.heap.size ≤ b := h
      exact ⟨fun ho => by have := hIlt b (hOI b ho); omega,fun _ => .inr (.inr (by omega)),.inr (.inr (.inr (by omega)))⟩
    · rcases o12 b h with h | h
      · exact ⟨fun ho => by have := hIlt b (hOI b ho); omega,fun _ => .inr (.inr (by omega)),.inr (.inr (.inr (by omega)))⟩
      · have := h1 b h
        exact ⟨this.2.1,fun _ => .inr this.2.2,.inr (.inr this.2.2)⟩
  have fin : ∀ (st : LoopState) (pe : Option Code),Kept (fun b => O b ∨ Z false b ∨ Z true b) W (w3.putObj l (.loop (recOf fn tm ps assign body D st pe))) ∧
      RgJ P N KB ιs env tm (Hp x') ws own0 z0 l D (recOf fn tm ps assign body D st pe) O I (w3.putObj l (.loop (recOf fn tm ps assign body D st pe))) := by
    intro st pe
    have kp : ∀ B,Kept B w3 (w3.putObj l (.loop (recOf fn tm ps assign body D st pe))) := fun B => Kept.putObj hl3 rfl
    have sz4 : (w3.putObj l (.loop (recOf fn tm ps assign body D st pe))).heap.size = w3.heap.size := by simp
    have hl4 : (w3.putObj l (.loop (recOf fn tm ps assign body D st pe))).heap[l]? = some (.loop (recOf fn tm ps assign body D st pe)) := World.putObj_heap_same (Array.getElem?_eq_some_iff.1 hl3).1
    have hD4 : (w3.putObj l (.loop (recOf fn tm ps assign body D st pe))).heap[D]? = some (.deferred (some [])) := (World.putObj_heap_other hJ.lws.2.2.symm).trans hD3
    have tr4 : Trans own0 ws (w3.putObj l (.loop (recOf fn tm ps assign body D st pe))) := (tr2.comp tr3 fun b hb => by
      rcases o12 b hb with h | h
      · exact .inr (by omega)
      · exact (h1 b h).2.2).putObj hl3 rfl hJ.lws.1
    have kW : Kept (fun b => b < W.heap.size ∧ ¬ ownedBy (Hp x) ι b) W (w3.putObj l (.loop (recOf fn tm ps assign body D st pe))) :=
      (((tr1.kept fun b _ hb => hb.2).trans (kp1 _)).trans (tr3.kept fun b _ hb ho => by
        rcases o12 b ho with h | h
        · omega
        · exact hb.2 h)).trans (kp _)
    have r8 := r7.anew none (dfr := []) (tm := a3.tmps) rfl (kp _)
    generalize w3.putObj l (.loop (recOf fn tm ps assign body D st pe)) = w4 at kp sz4 hl4 hD4 tr4 kW r8 ⊢
    refine ⟨kW.sub fun b hb => ?_,⟨⟨ι3,_,_,⟨r0.size,rfl,fun d v hl => ?_,r8.core,r8.stab⟩,fun b hb => ?_,fun b hb => ?_,fun b hb => (zc2 _ b hb).2.1 rfl,fun b hb => (zc2 _ b hb).2.2⟩,hl4,hD4,hJ.lO,hJ.lws,hJ.oo,hJ.oi,tr4⟩⟩
    · rcases hb with hb | hb | hb
      · exact ⟨hIlt b (hOI b hb),fun ho => (h1 b ho).2.1 hb⟩
      · exact ⟨(hZ _ b hb).1,hZown _ b hb⟩
      · exact ⟨(hZ _ b hb).1,hZown _ b hb⟩
    · refine (r0.env d v hl).mono kW.bsz _ _ (fun β b hz => ?_) (fun β b o u hz hu => kW.cell ⟨hz.1,fun ⟨t,ht,et⟩ => hz.2.1 t ht et⟩ hu) (fun t b hf et => ?_)
      · have no : ¬ ownedBy (Hp x) ι b := fun ⟨t,ht,et⟩ => hz.2.1 t ht et
        have hzW : b < W.heap.size := hz.1
        have z1 : zone C1 (Hb e x) ι2 w1 β b := zone_keep (C := C1) r4.core hz.1 no (by
          rcases zone_at hz with ⟨e0,h⟩ | h
          · exact .inl ⟨e0,.inl h⟩
          · exact .inr (.inl h))
        have no2 : ¬ ownedBy (Hb e x) ι2 b := fun ho => by
          rcases o12 b ho with h | h
          · omega
          · exact no h
        have z2 : zone C2 (Hp x') ι3 w3 β b := zone_keep (C := C2) r7.core (show b < w2.heap.size by omega) no2 (by
          cases β with
          | true => exact .inl ⟨rfl,z1⟩
          | false => exact .inr z1)
        refine ⟨by rw [sz4]; exact z2.1,z2.2.1,?_⟩
        cases β with
        | true => exact .inl ⟨rfl,z2⟩
        | false => exact .inr (.inl z2)
      · have ht := htag d v hl t hf
        have e1 := r0.stab t ht
        have e2 := r7.stab t ht
        show ι3 t = some b
        rw [e2]
        rw [e1] at et
        exact et
    · rcases o23 b hb with h | h
      · exact ⟨fun hi => by have := hIlt b hi; omega,fun ho => by have := hIlt b (hOI b ho); omega,.inr (by omega)⟩
      · rcases o12 b h with h | h
        · exact ⟨fun hi => by have := hIlt b hi; omega,fun ho => by have := hIlt b (hOI b ho); omega,.inr (by omega)⟩
        · exact h1 b h
    · rcases hb with hb | hb
      · exact ⟨by rw [sz4]; exact hb.1,(zc2 _ b hb).1⟩
      · exact ⟨by rw [sz4]; exact hb.1,(zc2 _ b hb).1⟩
  rcases hend with ⟨rfl,hnx⟩ | ⟨he3,hM⟩
  · obtain ⟨k1,k2⟩ := fin .ready none
    exact ⟨_,_,run_endRound none hl3,k1,.inl ⟨rfl,x',rest0,by rw [exs]; simp,hnx,k2⟩⟩
  · rcases he3 with rfl | ⟨id,rfl⟩
    · obtain ⟨k1,k2⟩ := fin .done (some .ret)
      exact ⟨_,_,run_endRound (some .ret) hl3,k1,.inr ⟨rfl,x',.ret,.ret,.inl ⟨rfl,rfl⟩,hM,k2⟩⟩
    · obtain ⟨k1,k2⟩ := fin .done (some (.exit id))
      exact ⟨_,_,run_endRound (some (.exit id)) hl3,k1,.inr ⟨rfl,x',.exit id,.exit id,.inr ⟨id,rfl,rfl⟩,hM,k2⟩⟩
end
end Go.AB
namespace Go.AB
open Go
theorem Rel.part {C : Ctx} {s : St} {ι : Tags} {a : Act} {w w' : World} (r : Rel C s ι a w) (ro : Option Nat) {dfr : List Deferred} {tm : Array Value} (ht : tm = a.tmps) {env : List (Nat × AV)} {Hx : List (Nat × Blk)}
    (henv : ∀ t v,look t env = some v → look t s.env = some v) (hHx : ∀ t kk,look t Hx = some kk → look t s.heap = some kk) {KB : List Nat} {ι0 : Tags} (hst : ∀ t,t ∈ KB → ι t = ι0 t)
    (k : Kept (fun b => ownedBy s.heap ι b ∨ zone C s.heap ι w false b ∨ zone C s.heap ι w true b) w w') :
    Rel ⟨C.P,ro,C.N,dfr,w',fun b => zone C s.heap ι w false b,fun b => zone C s.heap ι w true b,ownedBy Hx ι,KB,ι0⟩ ⟨env,Hx⟩ ι ⟨tm,dfr⟩ w' := by
  subst ht
  have hhas : ∀ t,has t Hx → has t s.heap := fun t ⟨kk,hk⟩ => ⟨kk,hHx t kk hk⟩
  have hZ : ∀ β b,zone C s.heap ι w β b → zone ⟨C.P,ro,C.N,dfr,w',fun b => zone C s.heap ι w false b,fun b => zone C s.heap ι w true b,ownedBy Hx ι,KB,ι0⟩ Hx ι w' β b := by
    intro β b hz
    refine ⟨Nat.lt_of_lt_of_le hz.1 k.size,fun t ht => hz.2.1 t (hhas t ht),?_⟩
    cases β with
    | true => exact .inl ⟨rfl,hz⟩
    | false => exact .inr (.inl hz)
  have hcell : ∀ β b o u,zone C s.heap ι w β b → w.cell? ⟨b,o,none⟩ = some u → w'.cell? ⟨b,o,none⟩ = some u := by
    intro β b o u hz hu
    exact k.cell (by cases β with | true => exact .inr (.inr hz) | false => exact .inr (.inl hz)) hu
  refine ⟨r.size,rfl,fun d v hl => (r.env d v (henv d v hl)).mono k.bsz _ _ hZ hcell (fun _ _ _ h => h),⟨fun t kk hk => ?_,fun t t' b h1 h2 => r.core.inj t t' b (hhas t h1) (hhas t' h2),fun t b ht e => .inr ⟨t,ht,e⟩,Trans.refl _ _⟩,hst⟩
  have h0 := r.core.blk t kk (hHx t kk hk)
  unfold BlkR at h0 ⊢
  cases hx : ι t with
  | none => simp only [hx] at h0 ⊢; exact h0
  | some b =>
    simp only [hx] at h0 ⊢
    obtain ⟨cur,q1,q2,q3⟩ := h0
    refine ⟨cur,?_,q2,fun i hi => ?_⟩
    · rw [k.block b _ _ _ (.inl ⟨t,hhas t ⟨kk,hk⟩,hx⟩) q1]; exact q1
    · obtain ⟨u,hu,hv⟩ := q3 i hi
      refine ⟨u,hu,hv.mono k.bsz _ _ ?_ ?_ (fun _ _ _ h => h)⟩
      · cases kk.lst with
        | true => exact fun _ b hb => hZ _ _ hb
        | false => exact hZ
      · cases kk.lst with
        | true => exact fun _ b o u hb => hcell _ b o u hb
        | false => exact hcell
theorem callee_core {C : Ctx} {s : St} {σ : Nat → Nat} {H : List (Nat × Blk)} {ι : Tags} {a : Act} {w w' : World} (rel : Rel C s ι a w) (hH : ∀ t k,look t H = some k → look (σ t) s.heap = some (renB σ k))
    (hinj : ∀ a b,a ∈ dom H → b ∈ dom H → σ a = σ b → a = b) (k : Kept (fun b => ownedBy s.heap ι b ∨ zone C s.heap ι w false b ∨ zone C s.heap ι w true b) w w') (ro : Option Nat) (dfr : List Deferred) :
    Core ⟨C.P,ro,C.N,dfr,w',fun b => zone C s.heap ι w false b,fun b => zone C s.heap ι w true b,ownedBy H (fun t => ι (σ t)),[],fun t => ι (σ t)⟩ H (fun t => ι (σ t)) w' := by
  have hHas : ∀ t,has t H → has (σ t) s.heap := fun t ⟨k,hk⟩ => ⟨_,hH t k hk⟩
  have hZ : ∀ β b,zone C s.heap ι w β b → zone ⟨C.P,ro,C.N,dfr,w',fun b => zone C s.heap ι w false b,fun b => zone C s.heap ι w true b,ownedBy H (fun t => ι (σ t)),[],fun t => ι (σ t)⟩ H (fun t => ι (σ t)) w' β b := by
    intro β b hz
    refine ⟨Nat.lt_of_lt_of_le hz.1 k.size,fun t ht => hz.2.1 (σ t) (hHas t ht),?_⟩
    cases β with
    | true => exact .inl ⟨rfl,hz⟩
    | false => exact .inr (.inl hz)
  have hcell : ∀ β b o u,zone C s.heap ι w β b → w.cell? ⟨b,o,none⟩ = some u → w'.cell? ⟨b,o,none⟩ = some u := by
    intro β b o u hz hu
    exact k.cell (by cases β with | true => exact .inr (.inr hz) | false => exact .inr (.inl hz)) hu
  refine ⟨fun t kk hk => ?_,fun t t' b h1 h2 e1 e2 => ?_,fun t b h e => .inr ⟨t,h,e⟩,Trans.refl _ _⟩
  · have h0 := rel.core.blk (σ t) _ (hH t kk hk)
    unfold BlkR at h0 ⊢
    cases hx : ι (σ t) with
    | none =>
      simp only [hx] at h0 ⊢
      obtain ⟨kt,kl,kc⟩ := kk
      cases kl with
      | true => exact h0
      | false => simp [renB] at h0
    | some b =>
      simp only [hx] at h0 ⊢
      have hown : ownedBy s.heap ι b := ⟨σ t,hHas t ⟨kk,hk⟩,hx⟩
      obtain ⟨kt,kl,kc⟩ := kk
      cases kl with
      | true =>
        obtain ⟨cur,q1,q2,q3⟩ := h0
        refine ⟨cur,by rw [k.block b _ _ _ (.inl hown) q1]; exact q1,q2,fun i hi => ?_⟩
        obtain ⟨u,hu,hv⟩ := q3 i hi
        exact ⟨u,hu,hv.mono k.bsz _ _ (fun _ _ h => hZ _ _ h) (fun _ b o u hb => hcell _ b o u hb) (fun _ _ _ h => h)⟩
      | false =>
        obtain ⟨cur,q1,q2,q3⟩ := h0
        have hlen : (renB σ ⟨kt,false,kc⟩).cells.length = kc.length := by simp [renB,AV.renL_eq]
        refine ⟨cur,by rw [k.block b _ _ _ (.inl hown) q1]; exact q1,by rw [hlen] at q2; exact q2,fun i hi => ?_⟩
        obtain ⟨u,hu,hv⟩ := q3 i (by rw [hlen]; exact hi)
        refine ⟨u,hu,?_⟩
        have e1 : (renB σ ⟨kt,false,kc⟩).cells[i]'(by rw [hlen]; exact hi) = (kc[i]'hi).ren σ := by simp [renB,AV.renL_eq]
        rw [e1] at hv
        exact (hv.unren (σ := σ)).mono k.bsz _ _ hZ hcell (fun _ _ _ h => h)
  · exact hinj t t' (has_dom.1 h1) (has_dom.1 h2) (rel.core.inj _ _ b (hHas t h1) (hHas t' h2) e1 e2)
theorem Trans.alloc {T : Nat → Prop} {w w1 : World} (h : Trans T w w1) (o : Obj) : Trans T w (w1.alloc o) :=
  ⟨h.os,h.tape,h.output,by simpa using Nat.le_succ_of_le h.size,fun b hb hn => by
    rw [RowKit.Below.heap_alloc _ _ _ (Nat.lt_of_lt_of_le hb h.size)]; exact h.block b hb hn,fun b n e => (Kept.alloc (B := fun _ => True) w1 o).bsz _ _ (h.bsz _ _ e)⟩
def markOf (B : Nat) : Deferred := { target := .collected B,args := #[] }
structure RgD where
  ms : List Nat
  w0 : World
  Zs : Nat → Prop
  Zb : Nat → Prop
  T0 : Nat → Prop
structure RgH {R : Type} (r : R) (w00 : World) (Zs0 Zb0 T00 : Nat → Prop) (g : Option R) (d : RgD) : Prop where
  g : g = some r
  tr : Trans T00 w00 d.w0
  own : ∀ b,d.T0 b → T00 b ∨ w00.heap.size ≤ b
  zs : ∀ b,d.Zs b → Zs0 b ∨ T00 b ∨ w00.heap.size ≤ b
  zb : ∀ b,d.Zb b → Zb0 b ∨ Zs0 b ∨ T00 b ∨ w00.heap.size ≤ b
  marks : ∀ B,B ∈ d.ms → d.w0.heap[B]? = some (.deferred (some [])) ∧ ¬ d.T0 B ∧ w00.heap.size ≤ B
  nodup : d.ms.Nodup
def rgFam {R : Type} (P : Program) (N : Nat) (ι0 : Tags) (r : R) (w00 : World) (Zs0 Zb0 T00 : Nat → Prop) : Fam (Option R) where
  D := RgD
  P := P
  r := none
  cx d := ⟨P,none,N,d.ms.map markOf,d.w0,d.Zs,d.Zb,d.T0,[],ι0⟩
  H g d := RgH r w00 Zs0 Zb0 T00 g d
  hP _ := rfl
  hr _ := rfl
section
variable {P : Program} {N : Nat} {ι0 : Tags} {w00 : World} {Zs0 Zb0 T00 : Nat → Prop}
theorem AWPF.range {σx R E : Type} {r : R} {Q : Exit → Option R → St → Prop} {s : St} {g : Operand} {ps : Array Nat} {assign body : Code} {f : FuncId} {avs cs : List AV} {H : List (Nat × Blk)} {vals : E → List AV} {xs : List E} {σ : Nat → Nat}
    {Hp : σx → List (Nat × Blk)} {Hb : E → σx → List (Nat × Blk)} {step : (σx → Option R) → E → σx → Option R} {k : σx → Option R} {env : List (Nat × AV)} {x0 : σx} {KB : List Nat} {envb : E → σx → List (Nat × AV)} {M : Exit → σx → Prop}
    (hS : ItSpec P f avs H vals xs) (hg : ∀ d,Ev ((rgFam P N ι0 r w00 Zs0 Zb0 T00).cx d) s g (.clo (.func f) [] cs)) (hcs : ∀ d,CvL ((rgFam P N ι0 r w00 Zs0 Zb0 T00).cx d) s σ H false cs avs)
    (hH : ∀ t k,look t H = some k → look (σ t) s.heap = some (renB σ k)) (hinj : ∀ a b,a ∈ dom H → b ∈ dom H → σ a = σ b → a = b)
    (hHp : ∀ t kk,look t (Hp x0) = some kk → look t s.heap = some kk) (hdis : ∀ t,has t (Hp x0) → t ∉ (dom H).map σ)
    (henv : ∀ t v,look t env = some v → look t s.env = some v) (htag : ∀ t v,look t env = some v → ∀ t',AV.free t' v = false → t' ∈ KB)
    (hx : rangeL step xs k x0 = some r) (hB : ∀ l,BodyOk P N l KB env Hp Hb step r vals ps assign body envb M)
    (hk : ∀ x,k x = some r → Q .normal (some r) ⟨env,Hp x⟩) (hstop : ∀ e x,M e x → Q e (some r) ⟨env,Hp x⟩) :
    AWPF (rgFam P N ι0 r w00 Zs0 Zb0 T00) (.rangeFunc g ps assign body) Q (some r) s := by
  intro d ι a w hR rel
  obtain ⟨hable,hspec⟩ := hS
  have hHas : ∀ t,has t H → has (σ t) s.heap := fun t ⟨k,hk⟩ => ⟨_,hH t k hk⟩
  have hv := hg d ι a w rel
  generalize hge : a.eval g = ge at hv
  cases hv with
  | clo _ _ _ _ _ u1 v1 hu hl q1 q2 =>
  have hu1 : u1 = [] := List.eq_nil_of_length_eq_zero (by simpa using hu)
  subst hu1
  have hvrs := (hcs d).vrs hHas rel [] hl q2
  refine wpIn_rangeFunc fun fn _ => ?_
  obtain ⟨W1,hW1⟩ : ∃ W1,(w.alloc (.deferred (some []))).alloc (.loop (recOf fn a.tmps ps assign body w.heap.size .ready none)) = W1 := ⟨_,rfl⟩
  have hL1 : W1.heap[w.heap.size + 1]? = some (.loop (recOf fn a.tmps ps assign body w.heap.size .ready none)) := by
    rw [← hW1]; have := World.alloc_heap_new (w.alloc (.deferred (some []))) (.loop (recOf fn a.tmps ps assign body w.heap.size .ready none)); rwa [World.size_alloc] at this
  have hD1 : W1.heap[w.heap.size]? = some (.deferred (some [])) := by
    rw [← hW1]; exact (RowKit.Below.heap_alloc _ _ _ (by simp)).trans (World.alloc_heap_new w _)
  have kp1 : ∀ B,Kept B w W1 := fun B => by rw [← hW1]; exact (Kept.alloc w _).trans (Kept.alloc _ _)
  have tr1 : Trans (fun b => ownedBy s.heap ι b) w W1 := by rw [← hW1]; exact ((Trans.refl _ w).alloc _).alloc _
  have sz1 : w.heap.size ≤ W1.heap.size := tr1.size
  have hen : (Instr.enterLoop fn a.tmps ps assign body none).run P w = .ok (w.heap.size + 1,[markOf w.heap.size]) W1 := by
    rw [← hW1]; exact run_enterLoop_outer _ _ _ _ _
  have hcore := callee_core rel hH hinj (kp1 _) none []
  have howlt : ∀ b,ownedBy s.heap ι b → b < w.heap.size := fun b hb => rel.core.lt hb
  have hOs : ∀ b,ownedBy H (fun t => ι (σ t)) b → ownedBy s.heap ι b := fun b ⟨t,ht,e⟩ => ⟨σ t,hHas t ht,e⟩
  have hvr1 : VRs W1 (zone ⟨P,none,N,[],W1,fun b => zone ((rgFam P N ι0 r w00 Zs0 Zb0 T00).cx d) s.heap ι w false b,fun b => zone ((rgFam P N ι0 r w00 Zs0 Zb0 T00).cx d) s.heap ι w true b,ownedBy H (fun t => ι (σ t)),[],fun t => ι (σ t)⟩ H (fun t => ι (σ t)) W1) (fun t => ι (σ t)) avs v1 := by
    refine ⟨hvrs.1,fun i hi => ?_⟩
    obtain ⟨u,hu,hvv⟩ := hvrs.2 i hi
    refine ⟨u,hu,hvv.mono (kp1 (fun _ => True)).bsz _ _ (fun β b hz => ?_) (fun β b o u hz hu => (kp1 (fun _ => True)).cell trivial hu) (fun _ _ _ h => h)⟩
    refine ⟨Nat.lt_of_lt_of_le hz.1 sz1,hz.2.1,?_⟩
    rcases hz.2.2 with ⟨e0,h | ⟨h,_⟩⟩ | h | h | h
    · exact .inl ⟨e0,h⟩
    · cases h
    · exact .inr (.inl h)
    · exact absurd hz.1 (Nat.not_lt.2 h)
    · exact .inr (.inr (.inr h))
  have rP := rel.part none (dfr := []) (tm := a.tmps) rfl henv hHp (KB := KB) (ι0 := ι) (fun _ _ => rfl) (kp1 _)
  have hz0 : ∀ β b,zone ((rgFam P N ι0 r w00 Zs0 Zb0 T00).cx d) s.heap ι w β b → ¬ ownedBy s.heap ι b ∧ b < w.heap.size := fun β b hz => ⟨fun ⟨t,ht,e⟩ => hz.2.1 t ht e,hz.1⟩
  have hround := RgJ.round (P := P) (N := N) (KB := KB) (ιs := ι) (env := env) (tm := a.tmps) (ws := w) (own0 := ownedBy s.heap ι) (z0 := zone ((rgFam P N ι0 r w00 Zs0 Zb0 T00).cx d) s.heap ι w) (l := w.heap.size + 1) (D := w.heap.size)
    (Hp := Hp) (Hb := Hb) (step := step) (k := k) (r := r) (vals := vals) (ps := ps) (assign := assign) (body := body) (envb := envb) (M := M) (fn := fn) (xs := xs) hz0 htag (hB _)
  have hJ0 : RgJ P N KB ι env a.tmps (Hp x0) w (ownedBy s.heap ι) (zone ((rgFam P N ι0 r w00 Zs0 Zb0 T00).cx d) s.heap ι w) (w.heap.size + 1) w.heap.size (recOf fn a.tmps ps assign body w.heap.size .ready none) (ownedBy H (fun t => ι (σ t))) (ownedBy H (fun t => ι (σ t))) W1 := by
    have hdj : ∀ b,ownedBy (Hp x0) ι b → ¬ ownedBy H (fun t => ι (σ t)) b := by
      rintro b ⟨t,⟨kk,ht⟩,e⟩ ⟨t',ht',e'⟩
      have := rel.core.inj t (σ t') b ⟨kk,hHp t kk ht⟩ (hHas t' ht') e e'
      exact hdis t ⟨kk,ht⟩ (this ▸ List.mem_map_of_mem (has_dom.1 ht'))
    refine ⟨⟨ι,_,_,rP,fun b hb => ⟨hdj b hb,hdj b hb,.inl ?_⟩,fun b hb => ?_,fun b hb => .inl hb,fun b hb => .inl hb⟩,hL1,hD1,⟨fun h => ?_,fun h => ?_⟩,⟨by omega,Nat.le_refl _,by omega⟩,fun b hb => .inl (hOs b hb),fun b hb => .inl (hOs b hb),tr1⟩
    · obtain ⟨t,⟨kk,ht⟩,e⟩ := hb
      exact ⟨t,⟨kk,hHp t kk ht⟩,e⟩
    · rcases hb with hb | hb
      · exact ⟨Nat.lt_of_lt_of_le hb.1 sz1,fun ho => (hz0 _ b hb).1 (hOs b ho)⟩
      · exact ⟨Nat.lt_of_lt_of_le hb.1 sz1,fun ho => (hz0 _ b hb).1 (hOs b ho)⟩
    · have := howlt _ (hOs _ h); omega
    · have := howlt _ (hOs _ h); omega
  have hcall := hspec _ _ (fun t => ι (σ t)) W1 v1 N [] none hcore hvr1 (w.heap.size + 1) _ _ (fun pre => ?_) ?_ hround ⟨x0,xs,rfl,hx,hJ0⟩
  · refine ⟨w.heap.size + 1,[markOf w.heap.size],W1,{ target := .fn (.func f) v1.toArray,args := #[.func (.yield (w.heap.size + 1)) #[] #[]] },W1,f,#[.func (.yield (w.heap.size + 1)) #[] #[]] ++ v1.toArray,W1,hen,?_,fun _ _ => trivial,?_,(fun h => by cases h),?_⟩
    · simp only [resolve,hge]
      simp [go_sem]
    · simp only [invoke]
      exact run_callFunc hable
    · have earr : (#[Value.func (.yield (w.heap.size + 1)) #[] #[]] ++ v1.toArray : Array Value) = (Value.func (.yield (w.heap.size + 1)) #[] #[] :: v1).toArray := by simp
      rw [earr]
      refine CallsIn.mono hcall ?_
      rintro e W2 ⟨⟨v,rfl⟩,O',I',hend⟩
      have own_l : ∀ {C : Ctx} {H : List (Nat × Blk)} {ι : Tags} {w : World} {b : Nat} {o : Obj},Core C H ι w → w.heap[b]? = some o → o.isCells = false → ¬ ownedBy H ι b := by
        intro C H ι w b o hc h ho hb
        obtain ⟨c,ty,n,h'⟩ := owned_lt hc hb
        rw [h] at h'
        cases h'
        simp [Obj.isCells] at ho
      -- the caller's state behind the loop
      have fin : ∀ (x : σx) (st : LoopState) (pe : Option Code),RgJ P N KB ι env a.tmps (Hp x) w (ownedBy s.heap ι) (zone ((rgFam P N ι0 r w00 Zs0 Zb0 T00).cx d) s.heap ι w) (w.heap.size + 1) w.heap.size (recOf fn a.tmps ps assign body w.heap.size st pe) O' I' W2 →
          ∀ o,∃ d' ι',(rgFam P N ι0 r w00 Zs0 Zb0 T00).H (some r) d' ∧ Rel ((rgFam P N ι0 r w00 Zs0 Zb0 T00).cx d') ⟨env,Hp x⟩ ι' { a with defers := [markOf w.heap.size] ++ a.defers } (W2.putObj (w.heap.size + 1) (.loop o)) := by
        intro x st pe hJ o
        obtain ⟨ι1,Zs,Zb,r1,h1,h2,h3,h4⟩ := hJ.st
        have kp : ∀ B,Kept B W2 (W2.putObj (w.heap.size + 1) (.loop o)) := fun B => Kept.putObj hJ.rc rfl
        have r2 := r1.part none (dfr := (w.heap.size :: d.ms).map markOf) (tm := a.tmps) rfl (fun _ _ h => h) (fun _ _ h => h) (KB := []) (ι0 := ι0) (fun _ h => by cases h) (kp _)
        have zs_of : ∀ b,ownedBy s.heap ι b → T00 b ∨ w00.heap.size ≤ b := fun b ⟨t,ht,e⟩ => by
          rcases rel.core.own t b ht e with h | h
          · have h : d.w0.heap.size ≤ b := h
            have := hR.tr.size
            exact .inr (by omega)
          · exact hR.own b h
        have trw : Trans T00 w00 w := hR.tr.comp rel.core.tr fun b hb => hR.own b hb
        have hw : w00.heap.size ≤ w.heap.size := trw.size
        have tr2 : Trans T00 w00 W2 := trw.comp hJ.tr fun b hb => zs_of b hb
        have zF : ∀ b,zone ((rgFam P N ι0 r w00 Zs0 Zb0 T00).cx d) s.heap ι w false b → Zs0 b ∨ T00 b ∨ w00.heap.size ≤ b := fun b hz => by
          rcases hz.2.2 with ⟨e0,_⟩ | h | h | h
          · cases e0
          · exact hR.zs b h
          · have h : d.w0.heap.size ≤ b := h
            have := hR.tr.size
            exact .inr (.inr (by omega))
          · exact .inr (hR.own b h)
        have zT : ∀ b,zone ((rgFam P N ι0 r w00 Zs0 Zb0 T00).cx d) s.heap ι w true b → Zb0 b ∨ Zs0 b ∨ T00 b ∨ w00.heap.size ≤ b := fun b hz => by
          rcases hz.2.2 with ⟨_,h⟩ | h | h | h
          · exact hR.zb b h
          · exact .inr (hR.zs b h)
          · have h : d.w0.heap.size ≤ b := h
            have := hR.tr.size
            exact .inr (.inr (.inr (by omega)))
          · exact .inr (.inr (hR.own b h))
        have zs3 : ∀ b,Zs b → Zs0 b ∨ T00 b ∨ w00.heap.size ≤ b := fun b hb => by
          rcases h3 b hb with h | h | h
          · exact zF b h
          · exact .inr (zs_of b h)
          · exact .inr (.inr (by omega))
        have zb3 : ∀ b,Zb b → Zb0 b ∨ Zs0 b ∨ T00 b ∨ w00.heap.size ≤ b := fun b hb => by
          rcases h4 b hb with h | h | h | h
          · exact zT b h
          · exact .inr (zF b h)
          · exact .inr (.inr (zs_of b h))
          · exact .inr (.inr (.inr (by omega)))
        have hold : ∀ B,B ∈ d.ms → w.heap[B]? = some (.deferred (some [])) ∧ w00.heap.size ≤ B := fun B hB => by
          obtain ⟨m1,m2,m3⟩ := hR.marks B hB
          have tr := rel.core.tr
          have : w.heap[B]? = d.w0.heap[B]? := tr.block B (Array.getElem?_eq_some_iff.1 m1).1 m2
          exact ⟨this.trans m1,m3⟩
        have hmk : ∀ B,B ∈ w.heap.size :: d.ms → (W2.putObj (w.heap.size + 1) (.loop o)).heap[B]? = some (.deferred (some [])) ∧ w00.heap.size ≤ B := fun B hB => by
          rcases List.mem_cons.1 hB with rfl | hB
          · exact ⟨(World.putObj_heap_other (by omega)).trans hJ.mark,hw⟩
          · obtain ⟨m1,m2⟩ := hold B hB
            have hlt := (Array.getElem?_eq_some_iff.1 m1).1
            refine ⟨(World.putObj_heap_other (by omega)).trans ?_,m2⟩
            rw [hJ.tr.block B hlt (own_l rel.core m1 rfl)]; exact m1
        refine ⟨⟨w.heap.size :: d.ms,W2.putObj (w.heap.size + 1) (.loop o),fun b => zone ⟨P,none,N,[],W2,Zs,Zb,ownedBy (Hp x) ι1,KB,ι⟩ (Hp x) ι1 W2 false b,fun b => zone ⟨P,none,N,[],W2,Zs,Zb,ownedBy (Hp x) ι1,KB,ι⟩ (Hp x) ι1 W2 true b,ownedBy (Hp x) ι1⟩,ι1,⟨rfl,tr2.putObj hJ.rc rfl (by omega),fun b hb => ?_,fun b hb => ?_,fun b hb => ?_,fun B hB => ⟨(hmk B hB).1,own_l r2.core (hmk B hB).1 rfl,(hmk B hB).2⟩,List.nodup_cons.2 ⟨fun hm => ?_,hR.nodup⟩⟩,?_⟩
        · rcases (h1 b hb).2.2 with h | h
          · exact zs_of b h
          · exact .inr (by omega)
        · rcases zone_at hb with ⟨e0,_⟩ | h
          · cases e0
          · exact zs3 b h
        · rcases zone_at hb with ⟨_,h⟩ | h
          · exact zb3 b h
          · exact .inr (zs3 b h)
        · have := (Array.getElem?_eq_some_iff.1 (hold _ hm).1).1
          omega
        · have ed : a.defers = d.ms.map markOf := rel.dfr
          have ea : ({ a with defers := [markOf w.heap.size] ++ a.defers } : Act) = ⟨a.tmps,(w.heap.size :: d.ms).map markOf⟩ := by
            rw [ed]; rfl
          rw [ea]
          exact r2
      rcases hend with ⟨x,rest,e1,e2,hJ⟩ | ⟨x,e3,c,hc,hM,hJ⟩
      · have : rest = [] := List.append_cancel_left (by rw [List.append_nil]; exact e1.symm)
        subst this
        rw [rangeL] at e2
        obtain ⟨d',ι',g1,g2⟩ := fin x _ _ hJ { recOf fn a.tmps ps assign body w.heap.size .ready none with state := .exhausted }
        refine ⟨none,_,run_endLoop hJ.rc (by simp [recOf]),?_⟩
        exact ⟨some r,⟨env,Hp x⟩,d',ι',g1,g2,hk x e2⟩
      · obtain ⟨d',ι',g1,g2⟩ := fin x _ _ hJ { recOf fn a.tmps ps assign body w.heap.size .done (some c) with state := .exhausted }
        refine ⟨some c,_,run_endLoop hJ.rc (by simp [recOf]),?_⟩
        rcases hc with ⟨rfl,rfl⟩ | ⟨id,rfl,rfl⟩
        · exact wpIn_ret ⟨some r,⟨env,Hp x⟩,d',ι',g1,g2,hstop _ x hM⟩
        · exact wpIn_exit ⟨some r,⟨env,Hp x⟩,d',ι',g1,g2,hstop _ x hM⟩
  · rintro O O' I I' W W' ⟨x,rest,e1,e2,hJ⟩ tr hO hI
    exact ⟨x,rest,e1,e2,RgJ.abide _ _ _ _ _ _ hJ tr hO hI⟩
  · rintro O O' I I' W W' ⟨x,e2,c,h1,h2,hJ⟩ tr hO hI
    exact ⟨x,e2,c,h1,h2,RgJ.abide _ _ _ _ _ _ hJ tr hO hI⟩
end
def shut (w : World) : List Nat → World
  | [] => w
  | B :: ms => shut (w.putObj B (.deferred none)) ms
theorem shut_facts : ∀ (ms : List Nat) (w : World),(∀ B,B ∈ ms → w.heap[B]? = some (.deferred (some []))) → ms.Nodup →
    (∀ K,Kept K w (shut w ms)) ∧ (∀ T w00,Trans T w00 w → (∀ B,B ∈ ms → w00.heap.size ≤ B) → Trans T w00 (shut w ms)) ∧
    ∀ (P : Program) (fn : Func) (tm : Array Value) (R : Ending → World → Prop),(∃ v,(results fn tm).run P (shut w ms) = .ok v (shut w ms) ∧ R (.returned v) (shut w ms)) → LeavesInM (Fc none) 0 P fn tm R (ms.map markOf) .returning w
  | [],w,_,_ => ⟨fun K => Kept.refl K w,fun T w00 h _ => h,fun P fn tm R h => h⟩
  | B :: ms,w,hm,hn => by
    have hB := hm B (by simp)
    have hn2 := List.nodup_cons.1 hn
    obtain ⟨f1,f2,f3⟩ := shut_facts ms (w.putObj B (.deferred none)) (fun B' hB' => by
      rw [World.putObj_heap_other (fun e => hn2.1 (by subst e; exact hB'))]
      exact hm B' (List.mem_cons_of_mem _ hB')) hn2.2
    refine ⟨fun K => (Kept.putObj hB rfl).trans (f1 K),fun T w00 h hge => f2 T w00 (h.putObj hB rfl (hge B (by simp))) fun B' hB' => hge B' (List.mem_cons_of_mem _ hB'),fun P fn tm R h => ?_⟩
    exact ⟨(fun h => by cases h),.inl ⟨B,_,rfl,run_takeDeferred hB,f3 P fn tm R h⟩⟩
theorem Spec.ofR {P : Program} {f : FuncId} {fn : Func} {c : Code} {avs : List AV} {H : List (Nat × Blk)} {N : Nat} {R : Type} (rf : R → AV) (Hf : R → List (Nat × Blk)) {rr : R} (hf : P.funcs[f]? = some fn) (hnt : fn.ntmps = N) (hb : fn.body = some c)
    (hc : (fn.name == "runtime.NumGoroutine") = false) (hN : avs.length ≤ N)
    (h : ∀ w0 Zs Zb T0 ι0,AWPF (rgFam P N ι0 rr w0 Zs Zb T0) c (fun e g s' => (e = .ret ∨ e = .normal) ∧ ∃ r',g = some r' ∧ ∀ w0 Zs Zb T0 ι0,Res ⟨P,none,N,[],w0,Zs,Zb,T0,[],ι0⟩ fn s' (rf r') (Hf r')) (some rr) ⟨enum 0 avs,H⟩) : Spec P f [] avs H (rf rr) (Hf rr) := by
  subst hnt
  refine ⟨⟨fn,hf,by simp [hb],hc⟩,fun Zs Zb ι w vs N dfr ro hcore hvs => ?_⟩
  obtain ⟨hl,hv⟩ := hvs
  have hw := h w Zs Zb (ownedBy H ι) ι ⟨[],w,Zs,Zb,ownedBy H ι⟩ ι { tmps := vs.toArray ++ Array.replicate (fn.ntmps - vs.toArray.size) undef,defers := [] } w
    ⟨rfl,Trans.refl _ _,fun _ h => .inl h,fun _ h => .inl h,fun _ h => .inl h,(fun B hB => by cases hB),List.nodup_nil⟩ ?_
  · refine callsIn_of_wp_marks hf hb trivial (wpIn_mono hw fun e a' w' ⟨g,s',d,ι1,hR,rel,he,r',hg',hres⟩ => ?_)
    have hgr := hR.g
    rw [hg'] at hgr
    obtain rfl := Option.some.inj hgr
    have hmk : ∀ B,B ∈ d.ms → w'.heap[B]? = some (.deferred (some [])) := fun B hB => by
      obtain ⟨m1,m2,m3⟩ := hR.marks B hB
      have tr := rel.core.tr
      have : w'.heap[B]? = d.w0.heap[B]? := tr.block B (Array.getElem?_eq_some_iff.1 m1).1 m2
      exact this.trans m1
    obtain ⟨f1,f2,f3⟩ := shut_facts d.ms w' hmk hR.nodup
    have trw : Trans (ownedBy H ι) w w' := hR.tr.comp rel.core.tr fun b hb => hR.own b hb
    have trf := f2 _ _ trw fun B hB => (hR.marks B hB).2.2
    have r2 := rel.anew none (dfr := []) (tm := a'.tmps) rfl (f1 _)
    obtain ⟨v,ι',q1,q2,q3,q4,q5⟩ := hres _ _ _ _ _ ι1 _ _ r2
    have hsz0 : w.heap.size ≤ d.w0.heap.size := hR.tr.size
    have ho1 : ∀ b,ownedBy s'.heap ι1 b → ownedBy H ι b ∨ w.heap.size ≤ b := fun b ⟨t,ht,e⟩ => by
      rcases rel.core.own t b ht e with h | h
      · have h : d.w0.heap.size ≤ b := h
        exact .inr (by omega)
      · exact hR.own b h
    have hz : ∀ β b,zone ⟨P,none,fn.ntmps,[],shut w' d.ms,fun b => zone ((rgFam P fn.ntmps ι r' w Zs Zb (ownedBy H ι)).cx d) s'.heap ι1 w' false b,fun b => zone ((rgFam P fn.ntmps ι r' w Zs Zb (ownedBy H ι)).cx d) s'.heap ι1 w' true b,ownedBy s'.heap ι1,[],ι⟩ (Hf r') ι' (shut w' d.ms) β b →
        zone ⟨P,ro,N,dfr,w,Zs,Zb,ownedBy H ι,[],ι⟩ (Hf r') ι' (shut w' d.ms) β b := by
      intro β b hz
      refine ⟨hz.1,hz.2.1,?_⟩
      have zF : zone ((rgFam P fn.ntmps ι r' w Zs Zb (ownedBy H ι)).cx d) s'.heap ι1 w' false b → Zs b ∨ w.heap.size ≤ b ∨ ownedBy H ι b := fun hz => by
        rcases hz.2.2 with ⟨e0,_⟩ | h | h | h
        · cases e0
        · rcases hR.zs b h with h | h | h
          · exact .inl h
          · exact .inr (.inr h)
          · exact .inr (.inl h)
        · have h : d.w0.heap.size ≤ b := h
          exact .inr (.inl (by omega))
        · rcases hR.own b h with h | h
          · exact .inr (.inr h)
          · exact .inr (.inl h)
      rcases hz.2.2 with ⟨e0,h⟩ | h | h | h
      · rcases h.2.2 with ⟨_,h⟩ | h | h | h
        · rcases hR.zb b h with h | h | h | h
          · exact .inl ⟨e0,h⟩
          · exact .inr (.inl h)
          · exact .inr (.inr (.inr h))
          · exact .inr (.inr (.inl h))
        · rcases hR.zs b h with h | h | h
          · exact .inr (.inl h)
          · exact .inr (.inr (.inr h))
          · exact .inr (.inr (.inl h))
        · have h : d.w0.heap.size ≤ b := h
          exact .inr (.inr (.inl (by show w.heap.size ≤ b; omega)))
        · rcases hR.own b h with h | h
          · exact .inr (.inr (.inr h))
          · exact .inr (.inr (.inl h))
      · exact .inr (zF h)
      · exact absurd hz.1 (Nat.not_lt.2 h)
      · rcases ho1 b h with h | h
        · exact .inr (.inr (.inr h))
        · exact .inr (.inr (.inl h))
    have hfin : ∃ v,(results fn a'.tmps).run P (shut w' d.ms) = .ok v (shut w' d.ms) ∧ (fun e w' => ∃ v ι',e = Ending.returned v ∧ Core ⟨P,ro,N,dfr,w,Zs,Zb,ownedBy H ι,[],ι⟩ (Hf r') ι' w' ∧ VR w' (zone ⟨P,ro,N,dfr,w,Zs,Zb,ownedBy H ι,[],ι⟩ (Hf r') ι' w') ι' (rf r') v ∧ ∀ t,t ∈ ([] : List Nat) → ι' t = ι t) (.returned v) (shut w' d.ms) := by
      refine ⟨v,q1,v,ι',rfl,⟨fun t k hk => ?_,q3.inj,fun t b ht e => ?_,trf⟩,q4.mono (fun _ _ h => h) _ _ hz (fun _ _ _ _ _ h => h) (fun _ _ _ h => h),fun t ht => by cases ht⟩
      · have h0 := q3.blk t k hk
        unfold BlkR at h0 ⊢
        cases hx : ι' t with
        | none => simp only [hx] at h0 ⊢; exact h0
        | some b =>
          simp only [hx] at h0 ⊢
          obtain ⟨cur,p1,p2,p3⟩ := h0
          refine ⟨cur,p1,p2,fun i hi => ?_⟩
          obtain ⟨u,hu,hvv⟩ := p3 i hi
          refine ⟨u,hu,hvv.mono (fun _ _ h => h) _ _ ?_ (fun _ _ _ _ _ h => h) (fun _ _ _ h => h)⟩
          cases k.lst with
          | true => exact fun _ b hb => hz _ _ hb
          | false => exact hz
      · rcases q3.own t b ht e with h | h
        · have h : (shut w' d.ms).heap.size ≤ b := h
          have := trf.size
          exact .inl (by show w.heap.size ≤ b; omega)
        · rcases ho1 b h with h | h
          · exact .inr h
          · exact .inl h
    have key := f3 P fn a'.tmps (fun e w' => ∃ v ι',e = Ending.returned v ∧ Core ⟨P,ro,N,dfr,w,Zs,Zb,ownedBy H ι,[],ι⟩ (Hf r') ι' w' ∧ VR w' (zone ⟨P,ro,N,dfr,w,Zs,Zb,ownedBy H ι,[],ι⟩ (Hf r') ι' w') ι' (rf r') v ∧ ∀ t,t ∈ ([] : List Nat) → ι' t = ι t) hfin
    have ed : a'.defers = d.ms.map markOf := rel.dfr
    rcases he with rfl | rfl
    · show LeavesInM _ _ _ _ _ _ a'.defers _ _
      rw [ed]; exact key
    · show LeavesInM _ _ _ _ _ _ a'.defers _ _
      rw [ed]; exact key
  · refine ⟨by show _ = fn.ntmps; simp [hl]; omega,rfl,?_,⟨hcore.blk,hcore.inj,hcore.own,hcore.tr⟩,fun _ h => by cases h⟩
    intro d v hlk
    rw [look_enum] at hlk
    simp only [Nat.zero_le,if_true,Nat.sub_zero] at hlk
    have hd := (List.getElem?_eq_some_iff.1 hlk).1
    obtain ⟨u,hu,hvr⟩ := hv d hd
    have he : avs[d] = v := by rw [List.getElem?_eq_getElem hd] at hlk; exact Option.some.inj hlk
    rw [he] at hvr
    have : (vs.toArray ++ Array.replicate (fn.ntmps - vs.toArray.size) undef).getD d undef = u := by
      rw [Array.getD_eq_getD_getElem?,Array.getElem?_append_left (by simp; omega)]
      simp [hu]
    simp only [this]
    exact hvr
end Go.AB
namespace Go.AB
open Go
section
variable {E : Type} {P : Program} {N : Nat} {ι0 : Tags} {xs : List E} {Zs Zb : Nat → Prop} {J : List E → (Nat → Prop) → (Nat → Prop) → World → Prop} {Jx : (Nat → Prop) → (Nat → Prop) → World → Prop} {A : Array Oper} {ol : List Oper} {s : St}
theorem ARunY.y0 {l : Nat} {vals : E → List AV} {dst : Nat} {y : Operand} {args : Array Operand} {ats : Array TypeId} {ty : TypeId} {p : String} {ed : Array Edge} {x : E} {r rest : List E} {m : Option (List E)} {s' : Bool → St}
    (hJ : ∀ pre,Abide (J pre)) (hJx : Abide Jx) (hR : RoundOk P l vals xs Zs Zb J Jx) (hyr : (false = false → r = x :: rest ∧ m = some rest) ∧ (false = true → r = [])) (hd : dst < N)
    (hy : ∀ d,Ev ((itFam P N ι0 xs Zs Zb J Jx).cx d) s y (.sc (.func (.yield l) #[] #[]))) (ha : ∀ d,EvV ((itFam P N ι0 xs Zs Zb J Jx).cx d) s args.toList (vals x))
    (t : ∀ b d,ARun ((itFam P N ι0 xs Zs Zb J Jx).cx d) A ol (s.put dst (.sc (.bool b))) (s' b)) :
    ARunY (itFam P N ι0 xs Zs Zb J Jx) A (⟨some dst,.call { callee := .value y,args := args,argTypes := ats },ty,p,ed,none⟩ :: ol) (some r) s (fun b => (ghY false b r rest,s' b)) := by
  refine ARunY.yield (fun d ι a w K Q hH rel hk => ?_) t
  obtain ⟨rfl,_⟩ := hyr.1 rfl
  refine yieldStep hJ hJx hR hd hy ha K Q hH rel fun b d' ι' a' w' hH' r' => hk b d' ι' a' w' ?_ r'
  simp only [ghY]
  exact hH'
end
def rangeB (σ : Nat → Nat) (D1 D2 : List Nat) : Bool := (D1.all fun a => D1.all fun b => !(Nat.beq (σ a) (σ b)) || Nat.beq a b) && D2.all fun t => !(anyT (D1.map σ) t)
def tagB (KB : List Nat) (env : List (Nat × AV)) : Bool := env.all fun p => p.2.tags.all fun t => anyT KB t
theorem mem_of_look {t : Nat} {v : AV} : ∀ {l : List (Nat × AV)},look t l = some v → (t,v) ∈ l
  | [],h => by cases h
  | (k,u) :: l,h => by
    by_cases e : t = k
    · subst e
      rw [look_cons_self] at h
      cases h
      exact List.mem_cons_self
    · rw [look_cons_ne e] at h
      exact List.mem_cons_of_mem _ (mem_of_look h)
section
variable {P : Program} {N : Nat} {ι0 : Tags} {w00 : World} {Zs0 Zb0 T00 : Nat → Prop}
theorem AWPF.range' {σx R E : Type} {r : R} {Q : Exit → Option R → St → Prop} {s : St} {g : Operand} {ps : Array Nat} {assign body : Code} {f : FuncId} {avs cs : List AV} {H : List (Nat × Blk)} {vals : E → List AV} {xs : List E} {σ : Nat → Nat}
    {Hp : σx → List (Nat × Blk)} {Hb : E → σx → List (Nat × Blk)} {step : (σx → Option R) → E → σx → Option R} {k : σx → Option R} {env : List (Nat × AV)} {x0 : σx} {KB : List Nat} {envb : E → σx → List (Nat × AV)} {M : Exit → σx → Prop}
    (hS : ItSpec P f avs H vals xs) (hg : ∀ d,Ev ((rgFam P N ι0 r w00 Zs0 Zb0 T00).cx d) s g (.clo (.func f) [] cs)) (hcs : ∀ d,CvL ((rgFam P N ι0 r w00 Zs0 Zb0 T00).cx d) s σ H false cs avs)
    (hH : AllH (fun t k => look (σ t) s.heap = some (renB σ k)) H) (hb : rangeB σ (dom H) (dom (Hp x0)) = true) (hHp : SubH (Hp x0) s.heap) (henv : SubE env s.env) (htag : tagB KB env = true)
    (hx : rangeL step xs k x0 = some r) (hB : ∀ l,BodyOk P N l KB env Hp Hb step r vals ps assign body envb M)
    (hk : ∀ x,k x = some r → Q .normal (some r) ⟨env,Hp x⟩) (hstop : ∀ e x,M e x → Q e (some r) ⟨env,Hp x⟩) :
    AWPF (rgFam P N ι0 r w00 Zs0 Zb0 T00) (.rangeFunc g ps assign body) Q (some r) s := by
  simp only [rangeB,Bool.and_eq_true,List.all_eq_true] at hb
  refine AWPF.range hS hg hcs (fun t k hl => hH.at hl) (fun a b ha hb' e => ?_) (fun t kk h => hHp.look h) (fun t ht hm => ?_) (fun t v h => henv.look h) (fun t v h t' hf => ?_) hx hB hk hstop
  · have := hb.1 a ha b hb'
    rw [e] at this
    simp only [Nat.beq_refl,Bool.not_true,Bool.false_or,Nat.beq_eq] at this
    exact this
  · have := hb.2 t (has_dom.1 ht)
    rw [anyT_iff.2 hm] at this
    cases this
  · unfold tagB at htag
    rw [List.all_eq_true] at htag
    have h1 := htag (t,v) (mem_of_look h)
    rw [List.all_eq_true] at h1
    exact anyT_iff.1 (h1 t' (AV.tags_of_free hf))
theorem AWPF.rangeG {σx R E : Type} {r r1 : R} {Q : Exit → Option R → St → Prop} {s : St} {g : Operand} {ps : Array Nat} {assign body : Code} {f : FuncId} {avs cs : List AV} {H : List (Nat × Blk)} {vals : E → List AV} {xs : List E} {σ : Nat → Nat}
    {Hp : σx → List (Nat × Blk)} {Hb : E → σx → List (Nat × Blk)} {step : (σx → Option R) → E → σx → Option R} {k : σx → Option R} {env : List (Nat × AV)} {x0 : σx} {KB : List Nat} {envb : E → σx → List (Nat × AV)} {M : Exit → σx → Prop}
    (hS : ItSpec P f avs H vals xs) (hg : ∀ d,Ev ((rgFam P N ι0 r w00 Zs0 Zb0 T00).cx d) s g (.clo (.func f) [] cs)) (hcs : ∀ d,CvL ((rgFam P N ι0 r w00 Zs0 Zb0 T00).cx d) s σ H false cs avs)
    (hH : AllH (fun t k => look (σ t) s.heap = some (renB σ k)) H) (hb : rangeB σ (dom H) (dom (Hp x0)) = true) (hHp : SubH (Hp x0) s.heap) (henv : SubE env s.env) (htag : tagB KB env = true)
    (hx : rangeL step xs k x0 = some r1) (hB : ∀ l,BodyOk P N l KB env Hp Hb step r1 vals ps assign body envb M)
    (hk : ∀ x,k x = some r1 → Q .normal (some r1) ⟨env,Hp x⟩) (hstop : ∀ e x,M e x → Q e (some r1) ⟨env,Hp x⟩) :
    AWPF (rgFam P N ι0 r w00 Zs0 Zb0 T00) (.rangeFunc g ps assign body) Q (some r1) s := by
  intro d ι a w hR rel
  obtain rfl := Option.some.inj hR.g
  exact AWPF.range' hS hg hcs hH hb hHp henv htag hx hB hk hstop d ι a w hR rel
end
end Go.AB
namespace Go.AB
theorem notT {e : Bool} (h : e = false) : (!e) = true := by simp [h]
end Go.AB
namespace Go.AB
open Go
def badN (R : List (List Nat)) (T : List Nat) (i : Nat) (S : List Nat) : Bool := anyT S i || S.any (fun k => pre R k i) || T.any (fun k => !anyT S k && pre R i k)
def nextN (T : List Nat) (i : Nat) (S S' : List Nat) : Bool := T.all (fun k => anyT S' k == (Nat.beq k i || anyT S k)) && S'.all (anyT T)
abbrev DNode := List Nat × List (Nat × Blk)
inductive NStep (C : Ctx) (A : Array Oper) (F : List DFact) (R : List (List Nat)) (T : List Nat) (Ns : List DNode) (i : Nat) (o : Oper) (x : DOp) (n : DNode) : Prop
  | bad (h : badN R T i n.1 = true)
  | stay (hT : anyT T i = false) (h : DStep C A o (needOf F x.need) n.2 x.dv x.T n.2)
  | turn {n' : DNode} (q : Nat) (hq : Ns[q]? = some n') (hn : nextN T i n.1 n'.1 = true) (h : DStep C A o (needOf F x.need) n.2 x.dv x.T n'.2)
inductive NSteps (C : Ctx) (A : Array Oper) (F : List DFact) (R : List (List Nat)) (T : List Nat) (Ns : List DNode) : Nat → List Oper → List DOp → Prop
  | nil (i : Nat) : NSteps C A F R T Ns i [] []
  | pure {i : Nat} {o : Oper} {os : List Oper} {x : DOp} {xs : List DOp} (hc : anyT T i = false) (h : ∀ H,DStep C A o (needOf F x.need) H x.dv x.T H)
      (t : NSteps C A F R T Ns (i + 1) os xs) : NSteps C A F R T Ns i (o :: os) (x :: xs)
  | each {i : Nat} {o : Oper} {os : List Oper} {x : DOp} {xs : List DOp} (h : AllL (NStep C A F R T Ns i o x) Ns)
      (t : NSteps C A F R T Ns (i + 1) os xs) : NSteps C A F R T Ns i (o :: os) (x :: xs)
end Go.AB
namespace Go.AB
open Go
theorem sliceAt_slice3 {P : Program} {w : World} {T E : TypeId} (hT : P.underlying T = some (.slice E)) {sz : Nat} (hE : szOf P E sz) (a : Option Addr) (n c : Nat) (lo : Option Value) (l h : Nat) (k1 k2 : IntKind)
    (hlo : (lo = none ∧ l = 0) ∨ ∃ k,lo = some (.int k l)) (h1 : l ≤ h) (h2 : h ≤ c) :
    (Instr.sliceAt T (.slice a n c) lo (some (.int k1 h)) (some (.int k2 h))).run P w = .ok (.slice (if h = l then a else a.map (·.add (l * sz))) (h - l) (h - l)) w := by
  have e1 : ∀ k code y,l ≤ y → (Instr.sliceBound (.int k l) y code).run P w = .ok l w := fun k code y hy => by
    have := run_sliceBound (P := P) w k (l : Int) y code (by omega) (by omega); simpa using this
  have e2 : ∀ k code y,h ≤ y → (Instr.sliceBound (.int k h) y code).run P w = .ok h w := fun k code y hy => by
    have := run_sliceBound (P := P) w k (h : Int) y code (by omega) (by omega); simpa using this
  rcases hlo with ⟨rfl,rfl⟩ | ⟨k3,rfl⟩ <;>
    simp [Instr.sliceAt,Instr.slice,run_underlying hT,Instr.sliceBounds,hE.run,e1,e2,h1,h2]
section
variable {C : Ctx} {d : Nat} {ty : TypeId} {p : String} {e : Array Edge} {g : Option (Nat × Bool)} {s : St}
theorem AStep.slX {α : Type} {enc : α → List AV} {sz : Nat} {x y z : Operand} {lo : Option Operand} {T E : TypeId} {β : Bool} {xs ys : List α} {n : Nat} {l h : Int} {k1 k2 : IntKind} (hd : d < C.N)
    (hx : Ev C s x (.rd β n (xs.flatMap enc))) (hT : C.P.underlying T = some (.slice E)) (hE : szOf C.P E sz) (henc : ∀ y,(enc y).length = sz) (hn : n = xs.length)
    (hl : BdI C s lo 0 l) (hy : Ev C s y (.sc (.int k1 h))) (hz : Ev C s z (.sc (.int k2 h))) (hs : slc xs l h = some ys) :
    AStep C ⟨some d,.slice T x lo (some y) (some z),ty,p,e,g⟩ s (s.put d (.rdx β ys.length (ys.flatMap enc))) := by
  obtain ⟨h1,h2,h3,rfl,h5⟩ := slcS hs
  subst hn
  refine .val hd (fun _ h => by cases h) fun ι a w r => ?_
  have hlv := (BdI.nat (d := 0) hl h1).val r
  have hyv : a.eval y = .int k1 (h.toNat : Nat) := by rw [hy.sc r,Int.toNat_of_nonneg (by omega)]
  have hzv : a.eval z = .int k2 (h.toNat : Nat) := by rw [hz.sc r,Int.toNat_of_nonneg (by omega)]
  rw [h5]
  have hlh : l.toNat ≤ h.toNat := by omega
  have hle : h.toNat ≤ xs.length := by omega
  generalize l.toNat = L at *
  generalize h.toNat = H at *
  rcases rd_inv (hx ι a w r) with ⟨⟨a0,hu⟩,hn,hcs⟩ | ⟨b,off,cap,vs,hu,hn,hc,hz',hv,hvr⟩
  · have hrun := sliceAt_slice3 (P := C.P) (w := w) hT hE a0 0 0 (lo.map a.eval) L H k1 k2 hlv hlh (by omega)
    have : xs = [] := List.eq_nil_of_length_eq_zero hn
    subst this
    have hl0 : H = 0 := by simpa using hle
    subst hl0
    have hl0 : L = 0 := by omega
    subst hl0
    refine ⟨.slice a0 0 0,?_,?_⟩
    · have hrun' : (Instr.sliceAt T (.slice a0 0 0) (lo.map a.eval) (some (.int k1 0)) (some (.int k2 0))).run C.P w = .ok (.slice a0 0 0) w := by simpa using hrun
      simp [execOp,hu,hyv,hzv]
      rw [hrun']
      rfl
    · simp
      exact .rdxnil _ _ _ _
  · have hrun := sliceAt_slice3 (P := C.P) (w := w) hT hE (Option.some ⟨b,off,Option.none⟩) xs.length cap (lo.map a.eval) L H k1 k2 hlv hlh (by omega)
    have hsub : ∀ i,i < (((xs.drop L).take (H - L)).flatMap enc).length → (((xs.drop L).take (H - L)).flatMap enc)[i]? = (xs.flatMap enc)[L * sz + i]? := fun i hi => by
      rw [← flatMap_take henc,← flatMap_drop henc] at hi ⊢
      rw [List.length_take] at hi
      rw [List.getElem?_take,if_pos (by omega),List.getElem?_drop]
    obtain ⟨q1,q2⟩ := VR.part (Z := fun _ => zone C s.heap ι w β) hv hvr hsub
    by_cases hcl : H = L
    · subst hcl
      refine ⟨.slice (Option.some ⟨b,off,Option.none⟩) (H - H) (H - H),?_,?_⟩
      · simp [execOp,hu,hyv,hzv]
        rw [hrun]
        simp
      · rw [Nat.sub_self]
        simp
        exact .rdxnil _ _ _ _
    · refine ⟨.slice (Option.some ⟨b,off + L * sz,Option.none⟩) (H - L) (H - L),?_,?_⟩
      · simp [execOp,hu,hyv,hzv]
        rw [hrun]
        simp [hcl,Addr.add_plain]
      · refine .rdx _ _ _ _ _ _ _ _ (fun hne => hz' fun hnil => hne ?_) (by omega) q1 q2
        have hlen := flatMap_length henc ((xs.drop L).take (H - L))
        have hlen2 := flatMap_length henc xs
        rw [hnil] at hlen2
        rw [List.length_take,List.length_drop] at hlen
        apply List.eq_nil_of_length_eq_zero
        rw [hlen]
        rcases Nat.eq_zero_or_pos sz with h | hpos
        · simp [h]
        · have : xs.length = 0 := by
            rcases Nat.eq_zero_or_pos xs.length with h | h
            · exact h
            · have := Nat.mul_pos h hpos
              rw [← hlen2] at this
              exact absurd this (by simp)
          simp [this]
theorem AStep.appX {α : Type} {enc : α → List AV} {x y : Operand} {T U E : TypeId} {t sz by_ n m : Nat} {β : Bool} {xs ys zs : List α} (hd : d < C.N) (hK : t ∉ C.K) (hx : Ev C s x (.rdx β n (xs.flatMap enc))) (hβ : β = false ∨ ∀ c ∈ xs.flatMap enc,c.scal = true)
    (hy : Src C s y sz m (ys.flatMap enc)) (hT : C.P.underlying T = some (.slice E)) (hU : ∃ D,C.P.underlying U = some D ∧ ∀ k,D ≠ .int k) (hE : elT C.P E sz by_)
    (henc : ∀ y,(enc y).length = sz) (hn : n = xs.length) (hm : m = ys.length) (hb : by_ ≤ 128) (hne : ys.length ≠ 0) (hz : apd xs ys = some zs) :
    AStep C ⟨some d,.call { callee := .builtin .append,args := #[x,y],argTypes := #[T,U] },ty,p,e,g⟩ s (s.newP d t ⟨E,true,zs.flatMap enc⟩ (.own t sz 0 zs.length)) := by
  obtain ⟨h1,rfl,h3⟩ := apdS hz
  subst hn hm
  have hbytes : (xs.length + ys.length) * by_ ≤ 140737488355328 := by
    have : (xs.length + ys.length) * by_ ≤ 1099511627776 * 128 := Nat.mul_le_mul h1 hb
    omega
  have h63 : xs.length + ys.length ≤ maxLen := by simp only [maxLen]; omega
  have hl := flatMap_length henc xs
  have hlxy := flatMap_length henc (xs ++ ys)
  rw [h3]
  refine .run (fun _ h => by cases h) fun ι a w r => ?_
  obtain ⟨i,z,hi,hz,hsz,hby,hzs⟩ := hE
  subst hsz hby
  obtain ⟨news,n1,n2,n3,n4,n5,n6⟩ := hy ι a w r
  have hexec : ∀ base n c,a.eval x = .slice base n c → (execOp a.eval ⟨some d,.call { callee := .builtin .append,args := #[x,y],argTypes := #[T,U] },ty,p,e,g⟩).run C.P w =
      ((Builtin.append_ #[T,U] ty #[.slice base n c,a.eval y]).run C.P w).andThen fun v w' => .ok (.value v) w' := by
    intro base n c hu
    simp [execOp,resolve,invoke,builtin,hu]
  have hany := fun base c olds => run_append_any (ty := ty) hT hi hz hU base xs.length c (a.eval y) ys.length news olds n1 n2
  have grow : ∀ (base : Option Addr) (c : Nat) (olds : List Value),a.eval x = .slice base xs.length c → c < xs.length + ys.length →
      (∀ w',w'.heap = w.heap → (Builtin.firstCells i.size xs.length (.slice base xs.length c)).run C.P w' = .ok olds.toArray w') → olds.length = xs.length * i.size →
      (∀ j (hj : j < (xs.flatMap enc).length),∃ u,olds[j]? = some u ∧ VR w (fun _ => zone C s.heap ι w false) (fun _ => none) ((xs.flatMap enc)[j]'hj) u) →
      ∃ u w' ι',(execOp a.eval ⟨some d,.call { callee := .builtin .append,args := #[x,y],argTypes := #[T,U] },ty,p,e,g⟩).run C.P w = .ok (.value u) w' ∧
        Rel C (s.newP d t ⟨E,true,(xs ++ ys).flatMap enc⟩ (.own t i.size 0 (xs.length + ys.length))) ι' (a.put (some d) u) w' := by
    intro base c olds hu hg hof hol hvr
    obtain ⟨c',hc1,hc2,hrun⟩ := (hany base c olds hof h63 hbytes).2 hg
    have hcs : (olds.toArray ++ news.toArray ++ Builtin.zeroCells z.cells (c' - (xs.length + ys.length))).size = c' * i.size := by
      have e1 : xs.length * i.size + ys.length * i.size + (c' - (xs.length + ys.length)) * i.size = c' * i.size := by rw [← Nat.add_mul,← Nat.add_mul]; congr 1; omega
      simp [size_zeroCells,hzs,hol,n3,e1]
    refine ⟨_,_,setT ι t w.heap.size,by rw [hexec base _ c hu,hrun]; rfl,?_⟩
    refine r.newL hd hK rfl rfl rfl rfl ?_ ?_ ?_
    · rw [hcs]
      have : (xs.length + ys.length) * i.size ≤ c' * i.size := Nat.mul_le_mul_right _ hc1
      rw [hlxy,List.length_append]; exact this
    · rw [List.flatMap_append]
      intro j hj
      obtain ⟨u,hu1,hu2⟩ := row_of (us := olds) (vs := news) (by rw [hl,hol]) hvr n6 j hj
      refine ⟨u,?_,hu2⟩
      rw [← Array.getElem?_toList]
      simp only [Array.toList_append]
      rw [List.getElem?_append_left (by rw [List.length_append] at hj ⊢; simp [hol,n3]; omega)]
      exact hu1
    · intro hb
      exact .own _ _ _ _ _ _ w.heap.size c' _ (by simp [setT]) hc1 hc2 hb (by rw [hcs]; omega)
  have hv := hx ι a w r
  generalize hu : a.eval x = u at hv
  generalize hcs : xs.flatMap enc = cs at hv hβ hl grow
  generalize hxl : xs.length = nx at hv
  cases hv with
  | rdxnil _ _ _ a0 =>
    have hx0 : xs = [] := List.eq_nil_of_length_eq_zero hxl
    subst hx0
    exact grow a0 0 [] (by simpa using hu) (by simp; omega) (fun w' _ => by cases a0 with | none => simp [Builtin.firstCells] | some a1 => simp [Builtin.firstCells,loadCells,loadCellsFrom]) (by simp) (fun j hj => absurd hj (by simp))
  | rdx _ _ _ _ _ b off vs hz' hc hv h =>
    subst hxl
    refine grow (some ⟨b,off,none⟩) xs.length ((List.range cs.length).map vs) hu (by omega) (fun w' hw' => firstCells_some (by simp [hl]) fun j hj => by
      rw [cell?_heap hw',hv j (by omega)]
      simp [show j < cs.length by omega]) (by simp [hl]) (fun j hj => ⟨vs j,by simp [hj],?_⟩)
    rcases hβ with rfl | hs
    · exact h j hj
    · have h2 := hs _ (List.getElem_mem hj)
      have h3 := h j hj
      generalize cs[j] = q at h2 h3
      cases q <;> simp [AV.scal] at h2
      rw [sc_inv h3]; exact .sc _ _ _
end
end Go.AB
namespace Go.AB
open Go
section
variable {C : Ctx} {s : St}
theorem VC.cell {t i : Nat} {k : Blk} {v v' : AV} (hk : look t s.heap = some k) (hl : k.lst = false) (hc : k.cells[i]? = some v) (h : ∀ w Z ι u,VR w Z ι v u → VR w Z ι v' u) :
    VC C s ⟨s.env,updH t ⟨k.ty,k.lst,k.cells.set i v'⟩ s.heap⟩ := by
  have hi := (List.getElem?_eq_some_iff.1 hc).1
  refine VC.cellsW hk rfl (by simp) (.inr fun hn => by rw [hn] at hi; cases hi) (fun hn => by rw [hn] at hi; cases hi) fun j hj hj' w Z ι u hZ hv => ?_
  simp only [hl,cond_false] at hv ⊢
  by_cases e : j = i
  · subst e
    have : k.cells[j] = v := by rw [List.getElem?_eq_getElem hj] at hc; exact Option.some.inj hc
    rw [this] at hv
    simp only [List.getElem_set_self]
    exact h _ _ _ _ hv
  · rw [List.getElem_set_ne (fun h => e h.symm)]
    exact hv
theorem VC.cellEq {t i : Nat} {k : Blk} {v v' : AV} (hk : look t s.heap = some k) (hl : k.lst = false) (hc : k.cells[i]? = some v) (h : v = v') :
    VC C s ⟨s.env,updH t ⟨k.ty,k.lst,k.cells.set i v'⟩ s.heap⟩ := VC.cell hk hl hc fun _ _ _ _ hv => h ▸ hv
end
end Go.AB
namespace Go.AB
inductive row8 : List AV → List UInt8 → Prop
  | n : row8 [] []
  | c {a : AV} {c : UInt8} {l : List AV} {l' : List UInt8} (h : a = .sc (.int .u8 (c.toNat : Int))) (t : row8 l l') : row8 (a :: l) (c :: l')
end Go.AB
namespace Go.AB
open Go
theorem RV.cell1 {C : Ctx} {s : St} {x T t off : Nat} {k : Blk} {c v : AV} (hx : look x s.env = some (.ptr t off)) (hT : oneT C.P T) (hk : look t s.heap = some k)
    (hc : k.cells[off]? = some c) (hv : v = k.out c) : RV C s (.cell x T) v := fun ι a w r => by
  subst hv
  obtain ⟨b,hu,ht⟩ := ptr_inv (r.env x _ hx)
  obtain ⟨cur,hb,hl,h⟩ := blk_inv r.core hk ht
  have hlt := (List.getElem?_eq_some_iff.1 hc).1
  obtain ⟨u,hu',hvr⟩ := h off hlt
  have he : k.cells[off] = c := by rw [List.getElem?_eq_getElem hlt] at hc; exact Option.some.inj hc
  rw [he] at hvr
  refine ⟨u,?_,out_VR hvr⟩
  have hcell : w.cell? ⟨b,off,none⟩ = some u := by rw [cell_of_row w b off cur k.ty (0,0) hb]; exact hu'
  simp [resVar,hu,asAddr,loadVar,hT.run,hcell]
end Go.AB
namespace Go.AB
inductive BornL (D : List DOp) : List DFact → Prop
  | n : BornL D []
  | o {slot : Nat} {v : AV} {dies : List Nat} {F : List DFact} (t : BornL D F) : BornL D (⟨slot,v,none,dies⟩ :: F)
  | b {slot j : Nat} {v : AV} {dies : List Nat} {x : DOp} {F : List DFact} (h : D[j]? = some x) (hv : x.dv = some (slot,v)) (t : BornL D F) : BornL D (⟨slot,v,some j,dies⟩ :: F)
theorem BornL.ok {D : List DOp} {F : List DFact} (h : BornL D F) : BornOk D F := by
  induction h with
  | n => trivial
  | o t ih => exact ⟨trivial,ih⟩
  | b h hv t ih => exact ⟨⟨_,h,hv⟩,ih⟩
inductive BaseL (E : List (Nat × AV)) : List DFact → Prop
  | n : BaseL E []
  | o {slot : Nat} {v : AV} {dies : List Nat} {F : List DFact} (h : look slot E = some v) (t : BaseL E F) : BaseL E (⟨slot,v,none,dies⟩ :: F)
  | b {slot j : Nat} {v : AV} {dies : List Nat} {F : List DFact} (t : BaseL E F) : BaseL E (⟨slot,v,some j,dies⟩ :: F)
theorem BaseL.ok {E : List (Nat × AV)} {F : List DFact} (h : BaseL E F) : BaseOk E F := by
  induction h with
  | n => trivial
  | o h t ih => exact ⟨h,ih⟩
  | b t ih => exact ⟨trivial,ih⟩
end Go.AB
namespace Go.AB
open Go
theorem CvL.at {C : Ctx} {s : St} {σ : Nat → Nat} {H : List (Nat × Blk)} {bw : Bool} {vs vs' : List AV} (h : CvL C s σ H bw vs vs') : vs.length = vs'.length ∧ ∀ i (hi : i < vs.length) (hi' : i < vs'.length),Cv C s σ H bw vs[i] vs'[i] := by
  induction h with
  | nil => exact ⟨rfl,fun i hi => absurd hi (by simp)⟩
  | cons h t ih =>
    refine ⟨by simp [ih.1],fun i hi hi' => ?_⟩
    cases i with
    | zero => exact h
    | succ i => exact ih.2 i (by simpa using hi) (by simpa using hi')
theorem Cv.agg {C : Ctx} {s : St} {σ : Nat → Nat} {H : List (Nat × Blk)} {bw : Bool} {cs cs' : List AV} (h : CvL C s σ H bw cs cs') : Cv C s σ H bw (.agg cs) (.agg cs') := by
  intro K ι a w u r hH hv
  obtain ⟨h1,h2⟩ := h.at
  cases hv with
  | agg _ _ _ vs hl hv =>
    exact .agg _ _ _ vs (by omega) fun i hi => h2 i (by omega) hi K ι a w _ r hH (hv i (by omega))
end Go.AB
namespace Go.AB
open Go
section
variable {C : Ctx} {A : Array Oper} {op : Op} {ty : TypeId} {p : String} {e : Array Edge} {j dj : Nat} {b want a0 : Bool} {l : List Oper} {s s1 s2 : St}
end
section
variable {C : Ctx} {d : Nat} {ty : TypeId} {p : String} {e : Array Edge} {g : Option (Nat × Bool)} {s : St}
end
end Go.AB
namespace Go.AB
open Go
section
variable {C : Ctx} {s : St} {d : Nat} {ty : TypeId} {p : String} {e : Array Edge} {g : Option (Nat × Bool)}
end
section
variable {C : Ctx} {A : Array Oper} {op : Op} {ty : TypeId} {p : String} {e : Array Edge} {need : List (Nat × AV)} {H H' : List (Nat × Blk)} {j dj : Nat} {b want a0 : Bool} {dv : Option (Nat × AV)} {T : List Nat}
end
end Go.AB
namespace Go.AB
open Go
end Go.AB
namespace Go.AB
open Go
section
variable {C : Ctx} {s : St} {d : Nat} {ty : TypeId} {p : String} {e : Array Edge} {g : Option (Nat × Bool)} {x : Operand} {T E U : TypeId}
theorem AStepE.eqNil0 {β : Bool} {n : Nat} {cells : List AV} (hd : d < C.N) (hx : Ev C s x (.rd β n cells)) (hT : C.P.underlying T = some (.slice E)) :
    AStepE C ⟨some d,.binOp .eql T x (.const (.slice none 0 0)) U,ty,p,e,g⟩ s (fun q => s.put d (.sc (.bool (decide (n = 0 ∧ q = 0))))) := AStepE.eqNil hd hx hT false
end
end Go.AB
namespace Go.AB
open Go
section
variable {C : Ctx} {s : St} {d : Nat} {ty : TypeId} {p : String} {e : Array Edge} {g : Option (Nat × Bool)}
section
variable {T U : TypeId} {x y : Operand} {us vs : List Int} {fs : Array Field} (hd : d < C.N) (hx : Ev C s x (.agg (us.map fun v => .sc (.int .i64 v)))) (hy : Ev C s y (.agg (vs.map fun v => .sc (.int .i64 v))))
  (hT : C.P.underlying T = some (.struct fs)) (hf : FsI C.P 0 fs.toList) (hs : C.P.stoodInHeld T = false) (hG : C.P.eqGuardType C.P.depth T = false) (h1 : us.length = fs.size) (h2 : vs.length = fs.size)
include hd hx hy hT hf hs hG h1 h2
end
section
variable {α : Type} [DecidableEq α] {enc : α → List AV} {k : IntKind} {f : α → Int} {T E U : TypeId} {x y : Operand} {xs ys : List α} {n : Nat} (hd : d < C.N) (hx : Ev C s x (.agg (xs.flatMap enc))) (hy : Ev C s y (.agg (ys.flatMap enc)))
    (henc : ∀ y,enc y = [.sc (.int k (f y))]) (hf : ∀ a b,f a = f b → a = b) (hT : C.P.underlying T = some (.array n E)) (hE : C.P.underlying E = some (.int k)) (hz : szOf C.P E 1) (hG : C.P.eqGuardType C.P.depth T = false)
    (h1 : xs.length = n) (h2 : ys.length = n)
include hd hx hy henc hf hT hE hz hG h1 h2
end
end
end Go.AB
namespace Go.AB
open Go
theorem Res.sub {C : Ctx} {fn : Func} {s : St} {r : AV} {H H2 : List (Nat × Blk)} (hs : SubH H2 H) (h : Res C fn s r H) : Res C fn s r H2 := fun ι a w rel => by
  obtain ⟨v,ι',q1,q2,q3,q4,q5⟩ := h ι a w rel
  have hhas : ∀ t,has t H2 → has t H := fun t ⟨k,hk⟩ => ⟨k,hs.look hk⟩
  have hZ : ∀ β b,zone C H ι' w β b → zone C H2 ι' w β b := fun β b hz => ⟨hz.1,fun t ht => hz.2.1 t (hhas t ht),hz.2.2⟩
  refine ⟨v,ι',q1,q2,⟨fun t k hk => ?_,fun t t' b h1 h2 => q3.inj t t' b (hhas t h1) (hhas t' h2),fun t b ht => q3.own t b (hhas t ht),q3.tr⟩,q4.mono (fun _ _ h => h) _ _ hZ (fun _ _ _ _ _ h => h) (fun _ _ _ h => h),q5⟩
  have h0 := q3.blk t k (hs.look hk)
  unfold BlkR at h0 ⊢
  cases hx : ι' t with
  | none => simp only [hx] at h0 ⊢; exact h0
  | some b =>
    simp only [hx] at h0 ⊢
    obtain ⟨cur,p1,p2,p3⟩ := h0
    refine ⟨cur,p1,p2,fun i hi => ?_⟩
    obtain ⟨u,hu,hv⟩ := p3 i hi
    refine ⟨u,hu,hv.mono (fun _ _ h => h) _ _ ?_ (fun _ _ _ _ _ h => h) (fun _ _ _ h => h)⟩
    cases k.lst with
    | true => exact fun _ b hb => hZ _ _ hb
    | false => exact hZ
end Go.AB
namespace Go.AB
open Go
section
variable {C : Ctx} {s : St} {d : Nat} {ty : TypeId} {p : String} {e : Array Edge} {g : Option (Nat × Bool)}
section
variable {x : Operand} {T U : TypeId} {A B : Array TypeId} {b : Bool}
end
end
end Go.AB
namespace Go.AB
open Go
end Go.AB
namespace Go.AB
open Go
end Go.AB
namespace Go.AB
open Go
section
variable {C : Ctx} {s : St} {d : Nat} {ty : TypeId} {p : String} {e : Array Edge} {g : Option (Nat × Bool)}
theorem zeroCells_facts (cells : Array Value) (n : Nat) (h : ∀ z,z ∈ cells.toList → z.oneCell' = true) :
    (Builtin.zeroCells cells n).toList.length = n * cells.size ∧ ∀ z,z ∈ (Builtin.zeroCells cells n).toList → z.oneCell' = true := by
  unfold Builtin.zeroCells
  refine ⟨by simp,fun z hz => ?_⟩
  simp only [Array.toList_map,List.mem_map] at hz
  obtain ⟨i,hi,rfl⟩ := hz
  by_cases hc : i % cells.size < cells.size
  · rw [getElem!_pos cells _ hc]
    exact h _ (by simp)
  · have h0 : cells.size = 0 := by
      rcases Nat.eq_zero_or_pos cells.size with h | h
      · exact h
      · exact absurd (Nat.mod_lt _ h) hc
    simp [h0] at hi
theorem AStep.clearTail {x : Operand} {T E : TypeId} {t sz off n : Nat} {k : Blk} {zs : List Value} {cells : List AV} (hx : Ev C s x (.own t sz off n)) (hT : C.P.underlying T = some (.slice E)) (hE : zeroT C.P E zs) (hz1 : ∀ z,z ∈ zs → z.oneCell' = true) (hzs : zs.length = sz)
    (hk : look t s.heap = some k) (hc : cells = k.cells.take off) :
    AStep C ⟨none,.call { callee := .builtin .clear,args := #[x],argTypes := #[T] },ty,p,e,g⟩ s ⟨s.env,updH t { k with cells := cells } s.heap⟩ :=
  .run (fun _ h => by cases h) fun ι a w r => by
    subst hc
    obtain ⟨i,zv,hi,hv,hvz,hisz⟩ := hE
    have hweak : Rel C ⟨s.env,updH t { k with cells := k.cells.take off } s.heap⟩ ι a w :=
      r.weakB hk (by simp; omega) fun j hj => .inr (by
        have : j < off := by simp at hj; omega
        rw [List.getElem_take,List.getElem?_eq_getElem (by simp at hj; omega)])
    rcases own_inv (hx ι a w r) with ⟨rfl,hu⟩ | ⟨b,cap,q,hu,ht,hn,hcap,hs,ho⟩
    · refine ⟨.tuple #[],w,ι,?_,by simpa [Act.put] using hweak⟩
      rcases hu with hu | ⟨b,o,hu⟩ <;>
        simp [execOp,resolve,invoke,builtin,Builtin.clear_,hu,run_underlying hT]
    · obtain ⟨cur,hb,hl,h⟩ := blk_inv r.core hk ht
      have hq : q = cur.size := by
        simp only [bsz,hb] at hs
        exact (Option.some.inj hs).symm
      obtain ⟨z1,z2⟩ := zeroCells_facts zv.cells n (fun z hz => hz1 z (by rw [← hvz]; exact hz))
      have hsz : zv.cells.size = sz := by rw [← hzs,← hvz]; simp
      rw [hsz] at z1
      have hnm : n * sz ≤ cap * sz := Nat.mul_le_mul_right _ hn
      rcases Nat.eq_zero_or_pos n with h0 | h0
      · subst h0
        refine ⟨.tuple #[],w,ι,?_,by simpa [Act.put] using hweak⟩
        simp [execOp,resolve,invoke,builtin,Builtin.clear_,hu,run_underlying hT]
      obtain ⟨m,rfl⟩ : ∃ m,n = m + 1 := ⟨n - 1,by omega⟩
      have hst' := run_storeCells_at C.P b off k.ty (Builtin.zeroCells zv.cells (m + 1)).toList 0 cur w hb (by rw [z1]; omega) z2
      generalize hzl : (Builtin.zeroCells zv.cells (m + 1)).toList = us at hst' z1 z2
      have hcs' : (cur.toList.take (off + 0) ++ us ++ cur.toList.drop (off + 0 + us.length)).toArray.size = cur.size := by simp; omega
      have hbig := setRow_heap w b cur (cur.toList.take (off + 0) ++ us ++ cur.toList.drop (off + 0 + us.length)).toArray k.ty (0,0) hb
      have hoth : ∀ j,j ≠ b → (w.setRow b (cur.toList.take (off + 0) ++ us ++ cur.toList.drop (off + 0 + us.length)).toArray).heap[j]? = w.heap[j]? := fun j hj => setRow_other w b j _ hj
      refine ⟨.tuple #[],w.setRow b (cur.toList.take (off + 0) ++ us ++ cur.toList.drop (off + 0 + us.length)).toArray,ι,?_,?_⟩
      · simp [execOp,resolve,invoke,builtin,Builtin.clear_,hu,run_underlying hT,zeroValue,typeInfo,hi,hv,hzl,hst']
      · generalize hW : w.setRow b (cur.toList.take (off + 0) ++ us ++ cur.toList.drop (off + 0 + us.length)).toArray = W at hbig hoth ⊢
        have hsz : ∀ x q,bsz w x = some q → bsz W x = some q := by
          intro x q hx
          by_cases e : x = b
          · subst e
            simp only [bsz,hb] at hx
            simp only [bsz,hbig,hcs']
            exact hx
          · simp only [bsz,hoth x e]; exact hx
        have hcell : ∀ β x o y',zone C s.heap ι w β x → w.cell? ⟨x,o,none⟩ = some y' → W.cell? ⟨x,o,none⟩ = some y' := by
          rintro β x o y' ⟨_,h2,_⟩ hy'
          have hne : x ≠ b := fun e => h2 t ⟨k,hk⟩ (by rw [ht,e])
          rw [World.cell?_of_block (a := ⟨x,o,none⟩) (hoth x hne)]; exact hy'
        have r2 : Rel C ⟨s.env,updH t { k with cells := k.cells.take off } s.heap⟩ ι a W := by
          refine r.write (w' := W) hk ht (by rw [← hW]; rfl) (by rw [← hW]; rfl) (by rw [← hW]; rfl) (by rw [← hW]; simp) hoth (k' := { k with cells := k.cells.take off }) hb hbig hcs' (by rw [hcs']; simp; omega) ?_
          intro j hj
          have hj1 : j < off := by simp at hj; omega
          have hj2 : j < k.cells.length := by simp at hj; omega
          obtain ⟨u,hu',hvr⟩ := h j hj2
          refine ⟨u,?_,?_⟩
          · rw [← Array.getElem?_toList]
            simp only [List.append_assoc]
            rw [List.getElem?_append_left (by simp; omega),List.getElem?_take,if_pos (by omega),Array.getElem?_toList]
            exact hu'
          · rw [List.getElem_take]
            refine hvr.mono hsz _ _ (fun _ _ h => h) ?_ (fun _ _ _ h => h)
            cases k.lst with
            | true => exact fun _ x o y' hz => hcell false x o y' hz
            | false => exact hcell
        simpa [Act.put] using r2
theorem AStep.slPart {α : Type} {sz n : Nat} {x : Operand} {lo : Option Operand} {T E : TypeId} {t : Nat} {xs zs : List α} {l : Int} (hd : d < C.N) (hx : Ev C s x (.own t sz 0 n)) (hT : C.P.underlying T = some (.slice E)) (hE : szOf C.P E sz)
    (hn : n = xs.length) (hl : BdI C s lo 0 l) (hz : slc xs 0 l = some zs) :
    AStep C ⟨some d,.slice T x lo none none,ty,p,e,g⟩ s (s.put d (.own t sz (0 + l.toNat * sz) (xs.length - l.toNat))) := by
  obtain ⟨_,h1,h2,_,_⟩ := slcS hz
  subst hn
  exact AStep.sliceOwn (h := xs.length) hd hx hT hE (hl.nat (d := 0) (by omega)) (.inl ⟨rfl,rfl⟩) (by omega) (Nat.le_refl _)
theorem AStep.slHead {α : Type} {sz n : Nat} {x : Operand} {hi : Option Operand} {T E : TypeId} {t : Nat} {xs zs : List α} {l : Int} (hd : d < C.N) (hx : Ev C s x (.own t sz 0 n)) (hT : C.P.underlying T = some (.slice E)) (hE : szOf C.P E sz)
    (hn : n = xs.length) (hl : BdI C s hi xs.length l) (hz : slc xs 0 l = some zs) :
    AStep C ⟨some d,.slice T x none hi none,ty,p,e,g⟩ s (s.put d (.own t sz 0 zs.length)) := by
  obtain ⟨_,h1,h2,_,h4⟩ := slcS hz
  subst hn
  have := AStep.sliceOwn (ty := ty) (p := p) (e := e) (g := g) (l := 0) (h := l.toNat) hd hx hT hE (.inl ⟨rfl,rfl⟩) (hl.nat (d := xs.length) (by omega)) (by omega) (by omega)
  rw [show (0 + 0 * sz) = 0 from by omega,show l.toNat - 0 = zs.length from by rw [h4]; rfl] at this
  exact this
end
theorem takeF {α : Type} {enc : α → List AV} {sz : Nat} (henc : ∀ y,(enc y).length = sz) {xs zs : List α} {l : Int} (hz : slc xs 0 l = some zs) : zs.flatMap enc = (xs.flatMap enc).take (0 + l.toNat * sz) := by
  obtain ⟨_,h1,h2,h3,_⟩ := slcS hz
  rw [h3,Nat.zero_add,flatMap_take henc]
  rfl
end Go.AB
