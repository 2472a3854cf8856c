import Derived.Test.YtpcjbgfgimboiaaBc
import Derived.Test.YtpcjbgfgimboiaaBe
import Derived.SizedLaws
set_option linter.unusedVariables false
namespace Go.AB
open Go Go.ChangeShapes Go.WideShapes Go.ChangeAt Go.RowKit
theorem weightsAll_mem {H : Type} {P : Program} {e : TypeId} {d : DataW H} {n : Nat} : ∀ {l : List (DataW H)},d ∈ l → n ∈ d.weights P e → n ∈ DataW.weightsAll P e l
  | x :: l,h,hn => by
    simp only [DataW.weightsAll,List.mem_append]
    rcases List.mem_cons.1 h with rfl | h
    · exact .inl hn
    · exact .inr (weightsAll_mem h hn)
def OpW (P : Program) (T : TypeId) {α : Type} (enc : α → List AV) (wf : α → Prop) : Prop :=
  ∀ (H : Type) (e : TypeId × Value → H) (W : World) (fuel : Nat) (cs : List Value) (x : DataW H × List MemPlace),DataW.trod e P W 0 (fun _ => true) true fuel T cs = some x → (∀ n ∈ x.1.weights P T,n ≤ reachBytes) →
    ∃ y,wf y ∧ cs.length = (enc y).length ∧ ∀ i (hi : i < (enc y).length),∃ u,cs[i]? = some u ∧ VR W (oldZ W) noT ((enc y)[i]'hi) u
def OpN (P : Program) (T : TypeId) {α : Type} (enc : α → List AV) (wf : α → Prop) (N : Nat) : Prop :=
  ∀ (H : Type) (e : TypeId × Value → H) (W : World) (fuel : Nat) (cs : List Value) (x : DataW H × List MemPlace),fuel ≤ N → DataW.trod e P W 0 (fun _ => true) true fuel T cs = some x → (∀ n ∈ x.1.weights P T,n ≤ reachBytes) →
    ∃ y,wf y ∧ cs.length = (enc y).length ∧ ∀ i (hi : i < (enc y).length),∃ u,cs[i]? = some u ∧ VR W (oldZ W) noT ((enc y)[i]'hi) u
theorem OpC.w {P : Program} {T : TypeId} {α : Type} {enc : α → List AV} {wf : α → Prop} (h : OpC P T enc wf) : OpW P T enc wf := fun H e W fuel cs x hx _ => h H e W fuel cs x hx
theorem OpC.n {P : Program} {T : TypeId} {α : Type} {enc : α → List AV} {wf : α → Prop} {N : Nat} (h : OpC P T enc wf) : OpN P T enc wf N := fun H e W fuel cs x _ hx _ => h H e W fuel cs x hx
theorem OpN.w {P : Program} {T : TypeId} {α : Type} {enc : α → List AV} {wf : α → Prop} (h : ∀ N,OpN P T enc wf N) : OpW P T enc wf := fun H e W fuel cs x hx hz => h fuel H e W fuel cs x (Nat.le_refl _) hx hz
theorem OpN.zero {P : Program} {T : TypeId} {α : Type} {enc : α → List AV} {wf : α → Prop} : OpN P T enc wf 0 := fun H e W fuel cs x hf hx hz => by
  have : fuel = 0 := by omega
  subst this
  simp [DataW.trod] at hx
theorem OpN.map {P : Program} {T : TypeId} {α β : Type} {enc : α → List AV} {wf : α → Prop} {enc' : β → List AV} {wf' : β → Prop} {N : Nat} (f : α → β) (h : OpN P T enc wf N) (he : ∀ y,enc' (f y) = enc y) (hw : ∀ y,wf y → wf' (f y)) : OpN P T enc' wf' N :=
  fun H e W fuel cs x hf hx hz => by
    obtain ⟨y,h1,h2,h3⟩ := h H e W fuel cs x hf hx hz
    refine ⟨f y,hw y h1,by rw [he]; exact h2,?_⟩
    rw [he]; exact h3
theorem OpN.slice {P : Program} {T E : TypeId} {α : Type} {enc : α → List AV} {wf : α → Prop} {sz : Nat} (hT : P.underlying T = some (.slice E)) (hc : P.cellsOf E = sz) (hpos : 0 < sz)
    (henc : ∀ y,(enc y).length = sz) {N : Nat} (hE : OpN P E enc wf N) : OpN P T (fun ys : List α => [.rd false ys.length (ys.flatMap enc)]) (fun ys => (ys.length ≤ maxLen ∧ ys.length * P.bytesOf E ≤ reachBytes) ∧ ∀ y,y ∈ ys → wf y) (N + 1) := fun H e W fuel cs x hN h hz => by
  rcases DataW.trod_slice hT h with ⟨rfl,_⟩ | ⟨a,len,cap,elems,rest,n,hfu,rfl,hxe,_,hl,hm,hlen,hel,hsp,_⟩
  rotate_left
  have hreach : len * P.bytesOf E ≤ reachBytes := by
    have := hz ((((elems.map (·.1)).length + (rest.map (·.1)).length)) * P.bytesOf E) (by rw [hxe]; simp [DataW.weights,hT])
    have h2 : len ≤ (elems.map (·.1)).length + (rest.map (·.1)).length := by simp only [List.length_map]; omega
    exact Nat.le_trans (Nat.mul_le_mul_right _ h2) this
  rotate_left
  · exact ⟨[],⟨⟨Nat.zero_le _,by simp⟩,fun y hy => by cases hy⟩,rfl,one_row (.rdnil _ _ _ _)⟩
  · rcases Nat.eq_zero_or_pos cap with h0 | h0
    · subst h0
      have : len = 0 := by omega
      subst this
      exact ⟨[],⟨⟨Nat.zero_le _,by simp⟩,fun y hy => by cases hy⟩,rfl,one_row (.rdnil _ _ _ _)⟩
    · have cell : ∀ q,q < cap → ∀ r,r < sz → ∃ u,W.cell? ((a.add (q * sz)).add r) = some u := by
        intro q hq r hr
        have hb : ∃ c,(W.cells? 0 (a.add (q * P.cellsOf E)) (P.cellsOf E)) = some c := by
          by_cases hi : q < len
          · have h1 := hel q hi
            rw [List.getElem?_eq_getElem (by omega)] at h1
            obtain ⟨c,hcc,_⟩ := Option.bind_eq_some_iff.1 h1
            exact ⟨c,hcc⟩
          · obtain ⟨hrl,hr'⟩ := hsp rfl
            have h1 := hr' (q - len) (by omega)
            rw [List.getElem?_eq_getElem (by omega),show len + (q - len) = q by omega] at h1
            obtain ⟨c,hcc,_⟩ := Option.bind_eq_some_iff.1 h1
            exact ⟨c,hcc⟩
        obtain ⟨c,hcc⟩ := hb
        rw [hc] at hcc
        obtain ⟨_,h2,h3⟩ := World.cells?_some hcc
        have h4 := h3 r hr
        rw [List.getElem?_eq_getElem (by omega)] at h4
        exact ⟨_,h4⟩
      have hspot : a.spot = none := by
        obtain ⟨u,hu⟩ := cell 0 h0 0 hpos
        rw [show (a.add (0 * sz)).add 0 = a by simp [Addr.add]] at hu
        unfold World.cell? at hu
        cases hs : a.spot with
        | none => rfl
        | some s =>
          rw [hs] at hu
          split at hu <;> simp at hu
      obtain ⟨b,off,sp⟩ := a
      simp only at hspot
      subst hspot
      have hq : ∀ q,q < len → ∃ y,wf y ∧ ∀ r (hr : r < (enc y).length),∃ u,W.cell? ⟨b,off + (q * sz + r),none⟩ = some u ∧ VR W (oldZ W) noT ((enc y)[r]'hr) u := by
        intro q hq
        have h1 := hel q hq
        rw [List.getElem?_eq_getElem (by omega)] at h1
        obtain ⟨c,hcc,ht⟩ := Option.bind_eq_some_iff.1 h1
        obtain ⟨y,hy,hyl,hv⟩ := hE H e W n c _ (by omega) ht (fun m hm => hz m (by
          rw [hxe]
          simp only [DataW.weights,hT,List.mem_cons,List.mem_append]
          exact .inr (.inl (weightsAll_mem (d := (elems[q]'(by omega)).1) (List.mem_map.2 ⟨_,List.getElem_mem _,rfl⟩) hm))))
        refine ⟨y,hy,fun r hr => ?_⟩
        obtain ⟨u,hu,hvr⟩ := hv r hr
        rw [hc] at hcc
        have := (World.cells?_some hcc).2.2 r (by rw [henc] at hr; exact hr)
        refine ⟨u,?_,hvr⟩
        rw [Addr.add_plain,Addr.add_plain] at this
        rw [← Nat.add_assoc,this,hu]
      obtain ⟨ys,hyl,hys⟩ := list_of len hq
      have hcl := flatMap_length henc ys
      refine ⟨ys,⟨⟨by rw [hyl]; omega,by rw [hyl]; exact hreach⟩,fun y hy => ?_⟩,rfl,one_row ?_⟩
      · obtain ⟨i,hi⟩ := List.getElem?_of_mem hy
        exact (hys i y hi).1
      · rw [hyl]
        have hcell : ∀ i,i < (ys.flatMap enc).length → W.cell? ⟨b,off + i,none⟩ = some ((W.cell? ⟨b,off + i,none⟩).getD undef) := by
          intro i hi
          have hi' : i < ys.length * sz := by omega
          have hq' : i / sz < len := by rw [← hyl]; exact Nat.div_lt_of_lt_mul (by rw [Nat.mul_comm]; exact hi')
          obtain ⟨u,hu⟩ := cell (i / sz) (by omega) (i % sz) (Nat.mod_lt _ hpos)
          rw [Addr.add_plain,Addr.add_plain,Nat.add_assoc,show i / sz * sz + i % sz = i by rw [Nat.mul_comm]; exact Nat.div_add_mod i sz] at hu
          rw [hu]
          rfl
        refine .rd _ _ false len _ b off cap (fun i => (W.cell? ⟨b,off + i,none⟩).getD undef) (fun hne => ?_) hl hm hcell ?_
        · have : 0 < (ys.flatMap enc).length := by
            rcases Nat.eq_zero_or_pos (ys.flatMap enc).length with h1 | h1
            · exact absurd (List.length_eq_zero_iff.1 h1) hne
            · exact h1
          exact cell_lt (hcell 0 this)
        · refine flat_cells henc hpos fun q y hy r hr => ?_
          obtain ⟨u,hu,hv⟩ := (hys q y hy).2 r hr
          rw [hu]
          exact hv
inductive OpFN (P : Program) (N : Nat) : List TypeId → {σ : Type} → (σ → List AV) → (σ → Prop) → Prop
  | nil : OpFN P N [] (σ := Unit) (fun _ => []) (fun _ => True)
  | cons {T : TypeId} {Ts : List TypeId} {α σ : Type} {enc : α → List AV} {wf : α → Prop} {avs : σ → List AV} {wfs : σ → Prop} (h : OpN P T enc wf N) (t : OpFN P N Ts avs wfs) :
      OpFN P N (T :: Ts) (σ := α × σ) (fun x => enc x.1 ++ avs x.2) (fun x => wf x.1 ∧ wfs x.2)
theorem OpFN.open {N : Nat} {P : Program} {Ts : List TypeId} {σ : Type} {avs : σ → List AV} {wfs : σ → Prop} (h : OpFN P N Ts avs wfs) {H : Type} {e : TypeId × Value → H} {W : World} {m : Nat} {cs : List Value} :
    ∀ {fs : List Field} {k n : Nat},fs.map (·.type) = Ts → consec P k fs = some n → cs.length = n →
      (hm : m ≤ N) → (∀ f,f ∈ fs → ∃ x,DataW.trod e P W 0 (fun _ => true) true m f.type ((cs.drop f.offset).take (P.cellsOf f.type)) = some x ∧ ∀ n ∈ x.1.weights P f.type,n ≤ reachBytes) →
      ∃ x,wfs x ∧ k + (avs x).length = n ∧ ∀ i (hi : i < (avs x).length),∃ u,cs[k + i]? = some u ∧ VR W (oldZ W) noT ((avs x)[i]'hi) u := by
  induction h with
  | nil =>
    intro fs k n hf hk hl _ _
    have : fs = [] := by simpa using hf
    subst this
    cases hk
    exact ⟨(),trivial,rfl,fun i hi => absurd hi (by simp)⟩
  | @cons T Ts α σ enc wf avs wfs h t ih =>
    intro fs k n hf hk hl hm hall
    match fs,hf with
    | f :: fs,hf0 =>
      simp only [List.map_cons,List.cons.injEq] at hf0
      obtain ⟨rfl,hf1⟩ := hf0
      unfold consec at hk
      split at hk
      · rename_i hoff
        have hle := consec_le hk
        obtain ⟨x0,hx0,hz0⟩ := hall f (by simp)
        obtain ⟨y,hy,hyl,hv⟩ := h H e W m _ _ hm hx0 hz0
        obtain ⟨x,hx,hxl,hvs⟩ := ih hf1 hk hl hm fun g hg => hall g (by simp [hg])
        have hn : (enc y).length = P.cellsOf f.type := by
          rw [← hyl,List.length_take,List.length_drop]
          omega
        refine ⟨(y,x),⟨hy,hx⟩,by simp only [List.length_append]; omega,fun i hi => ?_⟩
        rcases Nat.lt_or_ge i (enc y).length with hlt | hge
        · obtain ⟨u,hu,hvr⟩ := hv i hlt
          refine ⟨u,?_,by rw [List.getElem_append_left hlt]; exact hvr⟩
          rw [List.getElem?_take_of_lt (by omega),List.getElem?_drop,hoff] at hu
          exact hu
        · obtain ⟨u,hu,hvr⟩ := hvs (i - (enc y).length) (by simp only [List.length_append] at hi; omega)
          refine ⟨u,?_,by rw [List.getElem_append_right hge]; exact hvr⟩
          rw [← hn,show k + (enc y).length + (i - (enc y).length) = k + i by omega] at hu
          exact hu
      · cases hk
theorem OpN.struct {N : Nat} {P : Program} {T : TypeId} {fs : Array Field} {Ts : List TypeId} {σ R : Type} {avs : σ → List AV} {wfs : σ → Prop} {enc : R → List AV} {wf : R → Prop} (hT : P.underlying T = some (.struct fs))
    (hfs : fs.toList.map (·.type) = Ts) (hk : consec P 0 fs.toList = some (P.cellsOf T)) (h : OpFN P N Ts avs wfs) (mk : σ → R) (he : ∀ x,enc (mk x) = avs x) (hw : ∀ x,wfs x → wf (mk x)) : OpN P T enc wf (N + 1) :=
  fun H e W fuel cs x hN hx hz => by
    obtain ⟨xs,n,rfl,hxe,hl,hxl,hall⟩ := DataW.trod_struct hT hx
    obtain ⟨y,hy,hyl,hv⟩ := h.open (cs := cs) (m := n) hfs hk hl (by omega) fun f hf => by
      obtain ⟨i,hi⟩ := List.getElem?_of_mem hf
      have hi' : fs[i]? = some f := by simpa using hi
      have h1 := hall i f hi'
      have : i < xs.length := by
        rw [hxl]
        exact (Array.getElem?_eq_some_iff.1 hi').1
      rw [List.getElem?_eq_getElem this] at h1
      refine ⟨_,h1,fun m hm => hz m ?_⟩
      rw [hxe]
      simp only [DataW.weights,hT]
      refine DataW.weights_mem_each (j := i) (t := f.type) ?_ (d := (xs[i]).1) ?_ _ hm
      · rw [List.getElem?_map,hi]; rfl
      · rw [List.getElem?_map,List.getElem?_eq_getElem this]; rfl
    refine ⟨mk y,hw y hy,by rw [he]; omega,fun i hi => ?_⟩
    have hi' : i < (avs y).length := by rw [he] at hi; exact hi
    obtain ⟨u,hu,hvr⟩ := hv i hi'
    refine ⟨u,by simpa using hu,?_⟩
    have : (enc (mk y))[i]'hi = (avs y)[i]'hi' := by
      have h1 : (enc (mk y))[i]? = (avs y)[i]? := by rw [he]
      rw [List.getElem?_eq_getElem hi,List.getElem?_eq_getElem hi'] at h1
      exact Option.some.inj h1
    rw [this]
    exact hvr
def OpensW (P : Program) (T : TypeId) {α : Type} (av : α → AV) (wf : α → Prop) : Prop :=
  ∀ (H : Type) (enc : TypeId × Value → H) (W : World) (base : Nat) (v : Value) (d : DataW H) (ps : List MemPlace),Value.okWide P W .any base T v → DataW.Trod enc P W 0 (fun _ => true) true T v d ps → (∀ n ∈ d.weights P T,n ≤ reachBytes) →
    ∃ y,wf y ∧ VR W (oldZ W) noT (av y) v
theorem Opens.w {P : Program} {T : TypeId} {α : Type} {av : α → AV} {wf : α → Prop} (h : Opens P T av wf) : OpensW P T av wf := fun H enc W base v d ps h1 h2 _ => h H enc W base v d ps h1 h2
theorem OpW.opens {P : Program} {T : TypeId} {α : Type} {av : α → AV} {wf : α → Prop} (hT : ∃ D,P.underlying T = some D ∧ match D with | .int _ => True | .bool => True | .string => True | .slice _ => True | _ => False)
    (h : OpW P T (fun y => [av y]) wf) : OpensW P T av wf := fun H e W base v d ps hval hd hz => by
  obtain ⟨fuel,hf⟩ := hd
  obtain ⟨y,hy,hl,hv⟩ := h H e W fuel _ _ hf hz
  obtain ⟨u,hu,hvr⟩ := hv 0 (by simp)
  refine ⟨y,hy,?_⟩
  obtain ⟨D,hD,hm⟩ := hT
  have hcells : v.cells.toList = [v] := by
    cases v with
    | agg cs => simp only [Value.okWide,hD] at hval; cases D <;> simp_all [Cell.okWide,Cell.ok]
    | tuple vs => simp only [Value.okWide,hD] at hval; cases D <;> simp_all [Cell.okWide,Cell.ok]
    | _ => rfl
  rw [hcells] at hu
  cases hu
  exact hvr
inductive OpensLW (P : Program) : List TypeId → {σ : Type} → (σ → List AV) → (σ → Prop) → Prop
  | nil : OpensLW P [] (σ := Unit) (fun _ => []) (fun _ => True)
  | cons {T : TypeId} {Ts : List TypeId} {α σ : Type} {av : α → AV} {wf : α → Prop} {avs : σ → List AV} {wfs : σ → Prop} (h : OpensW P T av wf) (t : OpensLW P Ts avs wfs) :
      OpensLW P (T :: Ts) (σ := α × σ) (fun x => av x.1 :: avs x.2) (fun x => wf x.1 ∧ wfs x.2)
theorem OpensLW.open {P : Program} {Ts : List TypeId} {σ : Type} {avs : σ → List AV} {wfs : σ → Prop} (h : OpensLW P Ts avs wfs) {H : Type} {enc : TypeId × Value → H} {W : World} {base : Nat} :
    ∀ {vs : List Value} {ds : List (DataW H)} {ps : List MemPlace},(∀ (j : Nat) t v,Ts[j]? = some t → vs[j]? = some v → Value.okWide P W .any base t v) → DataW.TrodAll enc P W 0 (fun _ => true) true Ts vs ds ps → (∀ n ∈ DataW.weightsEach P Ts ds,n ≤ reachBytes) →
      ∃ x,wfs x ∧ VRs W (oldZ W) noT (avs x) vs := by
  induction h with
  | nil =>
    intro vs ds ps _ ht _
    obtain ⟨rfl,_,_⟩ := trodAll_nil ht
    exact ⟨(),trivial,rfl,fun i hi => absurd hi (by simp)⟩
  | cons h t ih =>
    intro vs ds ps hval ht hz
    obtain ⟨v0,vs0,d0,ds0,p0,q0,rfl,rfl,rfl,h0,r0⟩ := trodAll_cons ht
    obtain ⟨y,hy,hv⟩ := h H enc W base v0 d0 p0 (hval 0 _ v0 rfl rfl) h0 (fun n hn => hz n (by simp only [DataW.weightsEach,List.mem_append]; exact .inl hn))
    obtain ⟨x,hx,hl,hvs⟩ := ih (fun j t v ht hv => hval (j + 1) t v ht hv) r0 (fun n hn => hz n (by simp only [DataW.weightsEach,List.mem_append]; exact .inr hn))
    refine ⟨(y,x),⟨hy,hx⟩,by simp [hl],fun i hi => ?_⟩
    cases i with
    | zero => exact ⟨v0,rfl,hv⟩
    | succ i => exact hvs i (by simpa using hi)
end Go.AB
namespace Go.AB
open Go
mutual
def AV.zf : AV → Bool
  | .sc _ => true
  | .own _ _ _ _ => true
  | .ownc _ _ _ _ => true
  | .ptr _ _ => true
  | .any => true
  | .rd _ _ cs => cs.isEmpty
  | .agg cs => AV.zfL cs
  | .tup cs => AV.zfL cs
  | .clo _ a c => AV.zfL a && AV.zfL c
  | .gd _ v => AV.zf v
  | _ => false
def AV.zfL : List AV → Bool
  | [] => true
  | a :: l => AV.zf a && AV.zfL l
end
theorem zfL_mem : ∀ {l : List AV},AV.zfL l = true → ∀ c,c ∈ l → c.zf = true
  | [],_,c,hc => by cases hc
  | a :: l,h,c,hc => by
    rw [AV.zfL,Bool.and_eq_true] at h
    rcases List.mem_cons.1 hc with rfl | hc
    · exact h.1
    · exact zfL_mem h.2 c hc
theorem VR.zf {w w' : World} (hsz : ∀ b n,bsz w b = some n → bsz w' b = some n) {Z : Zone} {ι : Tags} {v : AV} {u : Value} (h : VR w Z ι v u) : v.zf = true → ∀ Z',VR w' Z' ι v u := by
  induction h with
  | sc Z ι v => intro _ Z'; exact .sc _ _ _
  | rdnil Z ι β a => intro _ Z'; exact .rdnil _ _ _ _
  | rd Z ι β n cells b off cap vs hz hn hc hv h ih =>
    intro hf Z'
    have : cells = [] := by simpa [AV.zf] using hf
    subst this
    exact .rd _ _ β n [] b off cap vs (fun h => absurd rfl h) hn hc (fun i hi => absurd hi (by simp)) (fun i hi => absurd hi (by simp))
  | rdx => intro hf; simp [AV.zf] at hf
  | rdxnil => intro hf; simp [AV.zf] at hf
  | ownnil => intro _ Z'; exact .ownnil _ _ _ _ _
  | ownz => intro _ Z'; exact .ownz _ _ _ _ _ _ _
  | own Z ι t sz off n b cap s ht hn hc hs ho => intro _ Z'; exact .own _ _ t sz off n b cap s ht hn hc (hsz _ _ hs) ho
  | ownc Z ι t sz n b c s ht hn hc hs ho => intro _ Z'; exact .ownc _ _ t sz n b c s ht hn hc (hsz _ _ hs) ho
  | ptr Z ι t off b ht => intro _ Z'; exact .ptr _ _ _ _ _ ht
  | rptr => intro hf; simp [AV.zf] at hf
  | agg Z ι cells vs hl h ih => intro hf Z'; exact .agg _ _ _ _ hl fun i hi => ih i hi (zfL_mem hf _ (List.getElem_mem hi)) Z'
  | tup Z ι cells vs hl h ih => intro hf Z'; exact .tup _ _ _ _ hl fun i hi => ih i hi (zfL_mem hf _ (List.getElem_mem hi)) Z'
  | clo Z ι f a c us vs hu hl h1 h2 ih1 ih2 =>
    intro hf Z'
    rw [AV.zf,Bool.and_eq_true] at hf
    exact .clo _ _ f a c us vs hu hl (fun i hi => ih1 i hi (zfL_mem hf.1 _ (List.getElem_mem hi)) Z') fun i hi => ih2 i hi (zfL_mem hf.2 _ (List.getElem_mem hi)) Z'
  | gd Z ι c x v h hu ih => intro hf Z'; exact .gd _ _ c x v (fun hc => ih hc hf Z') hu
  | any Z ι v => intro _ Z'; exact .any _ _ _
inductive ZH : List (Nat × Blk) → Prop
  | n : ZH []
  | c {t : Nat} {k : Blk} {l : List (Nat × Blk)} (h : ∀ c,c ∈ k.cells → c.zf = true) (r : ZH l) : ZH ((t,k) :: l)
theorem ZH.look {l : List (Nat × Blk)} (h : ZH l) : ∀ {t k},Go.AB.look t l = some k → ∀ c,c ∈ k.cells → c.zf = true := by
  induction h with
  | n => intro t k hk; cases hk
  | @c t0 k0 l h r ih =>
    intro t k hk
    by_cases e : t = t0
    · subst e
      rw [look_cons_self] at hk
      cases hk
      exact h
    · rw [look_cons_ne e] at hk
      exact ih hk
theorem zf_row {α : Type} {enc : α → List AV} (h : ∀ y,AV.zfL (enc y) = true) (xs : List α) : ∀ c,c ∈ xs.flatMap enc → c.zf = true := fun c hc => by
  obtain ⟨y,_,hy⟩ := List.mem_flatMap.1 hc
  exact zfL_mem (h y) c hy
def zeB (l : List (Nat × AV)) : Bool := l.all fun p => p.2.zf
theorem Rel.anewZ {C : Ctx} {s : St} {ι : Tags} {a : Act} {w w' : World} (r : Rel C s ι a w) (hE : zeB s.env = true) (hH : ZH s.heap) (ro : Option Nat) {dfr : List Deferred} {tm : Array Value} (ht : tm = a.tmps)
    (k : Kept (ownedBy s.heap ι) w w') : Rel ⟨C.P,ro,C.N,dfr,w',fun _ => False,fun _ => False,ownedBy s.heap ι,C.K,C.ι0⟩ s ι ⟨tm,dfr⟩ w' := by
  subst ht
  refine ⟨r.size,rfl,fun d v hl => (r.env d v hl).zf k.bsz (List.all_eq_true.1 hE (d,v) (mem_of_look hl)) _,⟨fun t kk hk => ?_,r.core.inj,fun t b ht e => .inr ⟨t,ht,e⟩,Trans.refl _ _⟩,r.stab⟩
  have h0 := r.core.blk t kk hk
  unfold BlkR at h0 ⊢
  cases hx : ι t with
  | none => simp only [hx] at h0 ⊢; exact h0
  | some b =>
    simp only [hx] at h0 ⊢
    obtain ⟨cur,q1,q2,q3⟩ := h0
    refine ⟨cur,?_,q2,fun i hi => ?_⟩
    · rw [k.block b _ _ _ ⟨t,⟨kk,hk⟩,hx⟩ q1]; exact q1
    · obtain ⟨u,hu,hv⟩ := q3 i hi
      exact ⟨u,hu,hv.zf k.bsz (hH.look hk _ (List.getElem_mem hi)) _⟩
def RoundOkN {E : Type} (P : Program) (l : Nat) (vals : E → List AV) (xs : List E) (J : List E → (Nat → Prop) → (Nat → Prop) → World → Prop) (Jx : (Nat → Prop) → (Nat → Prop) → World → Prop) : Prop :=
  ∀ pre x rest O I W us,xs = pre ++ x :: rest → J pre O I W → (∀ b,O b → I b) → (∀ b,I b → b < W.heap.size) → VRs W (fun _ _ => False) (fun _ => none) (vals x) us →
    YieldAt (Fc none) 0 P l us.toArray W fun e W' => Kept O W W' ∧ ((e = .returned (.bool true) ∧ J (pre ++ [x]) O I W') ∨ (e = .returned (.bool false) ∧ Jx O I W'))
theorem RoundOk.n {E : Type} {P : Program} {l : Nat} {vals : E → List AV} {xs : List E} {Zs Zb : Nat → Prop} {J : List E → (Nat → Prop) → (Nat → Prop) → World → Prop} {Jx : (Nat → Prop) → (Nat → Prop) → World → Prop}
    (h : RoundOk P l vals xs Zs Zb J Jx) : RoundOkN P l vals xs J Jx := fun pre x rest O I W us e hJ hO hI hv => by
  obtain ⟨fn,tmps,assign,body,hrun,hround⟩ := h pre x rest O I W (fun _ _ => False) us e hJ hO hI (fun _ _ h => h.elim) hv
  refine ⟨fn,tmps,assign,body,hrun,RoundIn.mono hround ?_⟩
  rintro e' W' ⟨kept,hres⟩
  exact ⟨kept.sub fun b hb => .inl hb,hres⟩
def ItSpecN (P : Program) (f : FuncId) (avs : List AV) (H : List (Nat × Blk)) {E : Type} (vals : E → List AV) (xs : List E) : Prop :=
  callable P f ∧ ∀ (Zs Zb : Nat → Prop) (ι : Tags) (w : World) (vs : List Value) (N : Nat) (dfr : List Deferred) (ro : Option Nat),
    Core ⟨P,ro,N,dfr,w,Zs,Zb,ownedBy H ι,[],ι⟩ H ι w → VRs w (zone ⟨P,ro,N,dfr,w,Zs,Zb,ownedBy H ι,[],ι⟩ H ι w) ι avs vs →
    ∀ (l : Nat) (J : List E → (Nat → Prop) → (Nat → Prop) → World → Prop) (Jx : (Nat → Prop) → (Nat → Prop) → World → Prop),(∀ pre,Abide (J pre)) → Abide Jx → RoundOkN P l vals xs J Jx →
    J [] (ownedBy H ι) (ownedBy H ι) w →
    CallsIn (Fc none) 0 P f (Value.func (.yield l) #[] #[] :: vs).toArray w fun e W' => (∃ v,e = .returned v) ∧ ∃ O' I',J xs O' I' W' ∨ Jx O' I' W'
section
variable {E : Type} {P : Program} {N : Nat} {ι0 : Tags} {xs : List E} {Zs Zb : Nat → Prop} {J : List E → (Nat → Prop) → (Nat → Prop) → World → Prop} {Jx : (Nat → Prop) → (Nat → Prop) → World → Prop}
theorem yieldStepN {l : Nat} {vals : E → List AV} (hJ : ∀ pre,Abide (J pre)) (hJx : Abide Jx) (hR : RoundOkN P l vals xs J Jx) {dst : Nat} {y : Operand} {args : Array Operand} {ats : Array TypeId} {ty : TypeId} {p : String} {e : Array Edge} {gd : Option (Nat × Bool)} {s : St}
    {x : E} {rest : List E} (hd : dst < N) (hy : ∀ d,Ev ((itFam P N ι0 xs Zs Zb J Jx).cx d) s y (.sc (.func (.yield l) #[] #[]))) (ha : ∀ d,EvV ((itFam P N ι0 xs Zs Zb J Jx).cx d) s args.toList (vals x)) (hzv : ∀ v,v ∈ vals x → v.zf = true) (hzE : zeB s.env = true) (hzH : ZH s.heap)
    {d : ItD} {ι : Tags} {a : Act} {w : World} (K : Act → World → Prop) (Q : Exit → Act → World → Prop) (hH : (itFam P N ι0 xs Zs Zb J Jx).H (some (x :: rest)) d) (r : Rel ((itFam P N ι0 xs Zs Zb J Jx).cx d) s ι a w)
    (hk : ∀ b d' ι' a' w',(itFam P N ι0 xs Zs Zb J Jx).H (if b = true then some rest else none) d' → Rel ((itFam P N ι0 xs Zs Zb J Jx).cx d') (s.put dst (.sc (.bool b))) ι' a' w' → K a' w') :
    (⟨some dst,.call { callee := .value y,args := args,argTypes := ats },ty,p,e,gd⟩ : Oper).wpIn (Fc none) 0 P a w K Q := by
  have hn := ItH.now hH hJ hJx r
  obtain ⟨pre,exs,hj⟩ := hn.past
  have hv := (ha d).vrs r
  obtain ⟨fn,tmps,assign,body,hrun,hround⟩ := hR pre x rest _ _ w _ exs hj hn.own hn.lt ⟨hv.1,fun i hi => by
    obtain ⟨u,hu,hvv⟩ := hv.2 i hi
    exact ⟨u,hu,hvv.zf (fun _ _ h => h) (hzv _ (List.getElem_mem hi)) _⟩⟩
  refine ⟨fun _ _ => trivial,?_⟩
  rw [semAt_plain _ _ _ (fun _ h => by cases h)]
  have he : a.eval y = .func (.yield l) #[] #[] := (hy d).sc r
  have hexec : (execOp a.eval ⟨some dst,.call { callee := .value y,args := args,argTypes := ats },ty,p,e,gd⟩).run P w = .ok (.round l fn tmps assign body) w := by
    have hargs : (args.toList.map a.eval).toArray = args.map a.eval := by
      apply Array.ext'
      simp
    rw [hargs] at hrun
    simp [execOp,resolve,he,Deferred.ofValue,invoke,hrun]
  rw [hexec,Oper.uponIn_round]
  refine ⟨(fun h => by cases h),RoundIn.mono hround ?_⟩
  rintro e' W' ⟨kept,hres⟩
  have fin : ∀ b,(match (if b = true then some rest else none) with | some rest => ∃ pre,xs = pre ++ rest ∧ J pre (ownedBy s.heap ι) (fun b => d.I b ∨ (d.w0.heap.size ≤ b ∧ b < w.heap.size)) W' | none => Jx (ownedBy s.heap ι) (fun b => d.I b ∨ (d.w0.heap.size ≤ b ∧ b < w.heap.size)) W') → K (a.put (some dst) (.bool b)) W' := by
    intro b hp
    have r2 := r.anewZ hzE hzH none (dfr := []) (tm := a.tmps) rfl kept
    refine hk b ⟨W',_,_,_,fun b => d.I b ∨ (d.w0.heap.size ≤ b ∧ b < w.heap.size)⟩ ι _ _ ⟨?_,hn.own,fun b hb => Nat.lt_of_lt_of_le (hn.lt b hb) kept.size,fun b hb => False.elim hb,fun b hb => False.elim hb⟩ (by
      have h3 := r2.put (d := dst) (u := .bool b) hd (.sc _ _ _)
      have e1 : a = ⟨a.tmps,[]⟩ := by
        have := r.dfr
        obtain ⟨x,y⟩ := a
        simp only at this
        subst this
        rfl
      rw [e1]
      exact h3)
    cases b with
    | true => exact hp
    | false => exact hp
  rcases hres with ⟨rfl,hj'⟩ | ⟨rfl,hj'⟩
  · exact fin true ⟨pre ++ [x],by rw [exs]; simp,hj'⟩
  · exact fin false hj'
end
theorem ItSpecN.of {P : Program} {f : FuncId} {fn : Func} {c : Code} {avs : List AV} {H : List (Nat × Blk)} {E : Type} {vals : E → List AV} {xs : List E} {N : Nat} (hf : P.funcs[f]? = some fn) (hnt : fn.ntmps = N) (hb : fn.body = some c)
    (hc : (fn.name == "runtime.NumGoroutine") = false) (hN : avs.length + 1 ≤ N) (hres : ∀ tmps w,∃ v,(results fn tmps).run P w = .ok v w)
    (h : ∀ l ι0 Zs Zb J Jx,(∀ pre,Abide (J pre)) → Abide Jx → RoundOkN P l vals xs J Jx →
      AWPF (itFam P N ι0 xs Zs Zb J Jx) c (fun e g _ => (e = .ret ∨ e = .normal) ∧ (g = some [] ∨ g = none)) (some xs) ⟨enum 0 (.sc (.func (.yield l) #[] #[]) :: avs),H⟩) : ItSpecN P f avs H vals xs := by
  subst hnt
  refine ⟨⟨fn,hf,by simp [hb],hc⟩,fun Zs Zb ι w vs N dfr ro hcore hvs l J Jx hJ hJx hR h0 => ?_⟩
  obtain ⟨hl,hv⟩ := hvs
  have hw := h l ι Zs Zb J Jx hJ hJx hR ⟨w,Zs,Zb,ownedBy H ι,ownedBy H ι⟩ ι { tmps := (Value.func (.yield l) #[] #[] :: vs).toArray ++ Array.replicate (fn.ntmps - (Value.func (.yield l) #[] #[] :: vs).toArray.size) undef,defers := [] } w
    ⟨⟨[],rfl,h0⟩,fun _ h => h,fun b hb => hcore.lt hb,fun _ h => .inl h,fun _ h => .inl h⟩ ?_
  · refine callsIn_of_wp hf hb trivial (wpIn_mono hw fun e a' w' ⟨g,s',d',ι',hH',r',he,hg⟩ => ?_)
    have hn := ItH.now hH' hJ hJx r'
    obtain ⟨v,hv⟩ := hres a'.tmps w'
    have hfin : ∃ O' I',J xs O' I' w' ∨ Jx O' I' w' := by
      have hp := hn.past
      rcases hg with rfl | rfl
      · obtain ⟨pre,e1,hj⟩ := hp
        rw [List.append_nil] at e1
        subst e1
        exact ⟨_,_,.inl hj⟩
      · exact ⟨_,_,.inr hp⟩
    have : bodyPost P fn (fun e w' => (∃ v,e = Ending.returned v) ∧ ∃ O' I',J xs O' I' w' ∨ Jx O' I' w') .normal a' w' := ⟨r'.dfr,v,hv,⟨v,rfl⟩,hfin⟩
    rcases he with rfl | rfl
    · exact this
    · exact this
  · refine ⟨by show _ = fn.ntmps; simp [hl]; omega,rfl,?_,⟨hcore.blk,hcore.inj,hcore.own,hcore.tr⟩,fun _ h => by cases h⟩
    intro d v hlk
    rw [look_enum] at hlk
    simp only [Nat.zero_le,if_true,Nat.sub_zero] at hlk
    have hd := (List.getElem?_eq_some_iff.1 hlk).1
    have hall : ∀ i (hi : i < (AV.sc (.func (.yield l) #[] #[]) :: avs).length),∃ u,(Value.func (.yield l) #[] #[] :: vs)[i]? = some u ∧ VR w (zone ⟨P,ro,N,dfr,w,Zs,Zb,ownedBy H ι,[],ι⟩ H ι w) ι ((AV.sc (.func (.yield l) #[] #[]) :: avs)[i]'hi) u := by
      intro i hi
      cases i with
      | zero => exact ⟨_,rfl,.sc _ _ _⟩
      | succ i =>
        obtain ⟨u,h1,h2⟩ := hv i (by simpa using hi)
        exact ⟨u,by simpa using h1,h2⟩
    obtain ⟨u,hu,hvr⟩ := hall d hd
    have he : (AV.sc (.func (.yield l) #[] #[]) :: avs)[d] = v := by rw [List.getElem?_eq_getElem hd] at hlk; exact Option.some.inj hlk
    rw [he] at hvr
    have : ((Value.func (.yield l) #[] #[] :: vs).toArray ++ Array.replicate (fn.ntmps - (Value.func (.yield l) #[] #[] :: vs).toArray.size) undef).getD d undef = u := by
      rw [Array.getD_eq_getD_getElem?,Array.getElem?_append_left (by simp only [List.length_cons] at hd; simp [hl]; omega)]
      simp [hu]
    simp only [this]
    exact hvr
section
variable {P : Program} {N : Nat} {ι0 : Tags} {w00 : World} {Zs0 Zb0 T00 : Nat → Prop}
theorem AWPF.rangeN {σx R E : Type} {r : R} {Q : Exit → Option R → St → Prop} {s sF : St} {g : Operand} {ps : Array Nat} {assign body : Code} {f : FuncId} {avs cs : List AV} {vals : E → List AV} {xs : List E} {σ : Nat → Nat}
    {Hp : σx → List (Nat × Blk)} {Hb : E → σx → List (Nat × Blk)} {step : (σx → Option R) → E → σx → Option R} {k : σx → Option R} {env : List (Nat × AV)} {x0 : σx} {KB : List Nat} {envb : E → σx → List (Nat × AV)} {M : Exit → σx → Prop}
    (hS : ItSpecN P f avs [] vals xs) (hF : ∀ d,VC ((rgFam P N ι0 r w00 Zs0 Zb0 T00).cx d) s sF) (hg : ∀ d,Ev ((rgFam P N ι0 r w00 Zs0 Zb0 T00).cx d) sF g (.clo (.func f) [] cs)) (hcs : ∀ d,CvL ((rgFam P N ι0 r w00 Zs0 Zb0 T00).cx d) sF σ [] false cs avs)
    (hHp : ∀ t kk,look t (Hp x0) = some kk → look t s.heap = some kk)
    (henv : ∀ t v,look t env = some v → look t s.env = some v) (htag : ∀ t v,look t env = some v → ∀ t',AV.free t' v = false → t' ∈ KB)
    (hx : rangeL step xs k x0 = some r) (hB : ∀ l,BodyOk P N l KB env Hp Hb step r vals ps assign body envb M)
    (hk : ∀ x,k x = some r → Q .normal (some r) ⟨env,Hp x⟩) (hstop : ∀ e x,M e x → Q e (some r) ⟨env,Hp x⟩) :
    AWPF (rgFam P N ι0 r w00 Zs0 Zb0 T00) (.rangeFunc g ps assign body) Q (some r) s := by
  intro d ι a w hR rel
  obtain ⟨hable,hspec⟩ := hS
  have hHas : ∀ t,has t ([] : List (Nat × Blk)) → has (σ t) sF.heap := fun t ⟨k,hk⟩ => by cases hk
  obtain ⟨ιF,relF⟩ := hF d ι a w rel
  have hv := hg d ιF a w relF
  generalize hge : a.eval g = ge at hv
  cases hv with
  | clo _ _ _ _ _ u1 v1 hu hl q1 q2 =>
  have hu1 : u1 = [] := List.eq_nil_of_length_eq_zero (by simpa using hu)
  subst hu1
  have hvrs := (hcs d).vrs hHas relF [] hl q2
  refine wpIn_rangeFunc fun fn _ => ?_
  obtain ⟨W1,hW1⟩ : ∃ W1,(w.alloc (.deferred (some []))).alloc (.loop (recOf fn a.tmps ps assign body w.heap.size .ready none)) = W1 := ⟨_,rfl⟩
  have hL1 : W1.heap[w.heap.size + 1]? = some (.loop (recOf fn a.tmps ps assign body w.heap.size .ready none)) := by
    rw [← hW1]; have := World.alloc_heap_new (w.alloc (.deferred (some []))) (.loop (recOf fn a.tmps ps assign body w.heap.size .ready none)); rwa [World.size_alloc] at this
  have hD1 : W1.heap[w.heap.size]? = some (.deferred (some [])) := by
    rw [← hW1]; exact (RowKit.Below.heap_alloc _ _ _ (by simp)).trans (World.alloc_heap_new w _)
  have kp1 : ∀ B,Kept B w W1 := fun B => by rw [← hW1]; exact (Kept.alloc w _).trans (Kept.alloc _ _)
  have tr1 : Trans (fun b => ownedBy s.heap ι b) w W1 := by rw [← hW1]; exact ((Trans.refl _ w).alloc _).alloc _
  have sz1 : w.heap.size ≤ W1.heap.size := tr1.size
  have hen : (Instr.enterLoop fn a.tmps ps assign body none).run P w = .ok (w.heap.size + 1,[markOf w.heap.size]) W1 := by
    rw [← hW1]; exact run_enterLoop_outer _ _ _ _ _
  have noB : ∀ (τ : Tags) b,¬ ownedBy ([] : List (Nat × Blk)) τ b := fun τ b ⟨t,⟨k,hk⟩,_⟩ => by cases hk
  have hcore : Core ⟨P,none,N,[],W1,fun b => zone ((rgFam P N ι0 r w00 Zs0 Zb0 T00).cx d) sF.heap ιF w false b,fun b => zone ((rgFam P N ι0 r w00 Zs0 Zb0 T00).cx d) sF.heap ιF w true b,ownedBy [] (fun t => ιF (σ t)),[],fun t => ιF (σ t)⟩ [] (fun t => ιF (σ t)) W1 := ⟨(fun t k hk => by cases hk),(fun t t' b h => by obtain ⟨k,hk⟩ := h; cases hk),(fun t b h => by obtain ⟨k,hk⟩ := h; cases hk),Trans.refl _ _⟩
  have howlt : ∀ b,ownedBy s.heap ι b → b < w.heap.size := fun b hb => rel.core.lt hb
  have hOs : ∀ b,ownedBy [] (fun t => ιF (σ t)) b → ownedBy s.heap ι b := fun b h => absurd h (noB _ b)
  have hvr1 : VRs W1 (zone ⟨P,none,N,[],W1,fun b => zone ((rgFam P N ι0 r w00 Zs0 Zb0 T00).cx d) sF.heap ιF w false b,fun b => zone ((rgFam P N ι0 r w00 Zs0 Zb0 T00).cx d) sF.heap ιF w true b,ownedBy [] (fun t => ιF (σ t)),[],fun t => ιF (σ t)⟩ [] (fun t => ιF (σ t)) W1) (fun t => ιF (σ t)) avs v1 := by
    refine ⟨hvrs.1,fun i hi => ?_⟩
    obtain ⟨u,hu,hvv⟩ := hvrs.2 i hi
    refine ⟨u,hu,hvv.mono (kp1 (fun _ => True)).bsz _ _ (fun β b hz => ?_) (fun β b o u hz hu => (kp1 (fun _ => True)).cell trivial hu) (fun _ _ _ h => h)⟩
    refine ⟨Nat.lt_of_lt_of_le hz.1 sz1,hz.2.1,?_⟩
    rcases hz.2.2 with ⟨e0,h | ⟨h,_⟩⟩ | h | h | h
    · exact .inl ⟨e0,h⟩
    · cases h
    · exact .inr (.inl h)
    · exact absurd hz.1 (Nat.not_lt.2 h)
    · exact .inr (.inr (.inr h))
  have rP := rel.part none (dfr := []) (tm := a.tmps) rfl henv hHp (KB := KB) (ι0 := ι) (fun _ _ => rfl) (kp1 _)
  have hz0 : ∀ β b,zone ((rgFam P N ι0 r w00 Zs0 Zb0 T00).cx d) s.heap ι w β b → ¬ ownedBy s.heap ι b ∧ b < w.heap.size := fun β b hz => ⟨fun ⟨t,ht,e⟩ => hz.2.1 t ht e,hz.1⟩
  have hround := RgJ.round (P := P) (N := N) (KB := KB) (ιs := ι) (env := env) (tm := a.tmps) (ws := w) (own0 := ownedBy s.heap ι) (z0 := zone ((rgFam P N ι0 r w00 Zs0 Zb0 T00).cx d) s.heap ι w) (l := w.heap.size + 1) (D := w.heap.size)
    (Hp := Hp) (Hb := Hb) (step := step) (k := k) (r := r) (vals := vals) (ps := ps) (assign := assign) (body := body) (envb := envb) (M := M) (fn := fn) (xs := xs) hz0 htag (hB _)
  have hJ0 : RgJ P N KB ι env a.tmps (Hp x0) w (ownedBy s.heap ι) (zone ((rgFam P N ι0 r w00 Zs0 Zb0 T00).cx d) s.heap ι w) (w.heap.size + 1) w.heap.size (recOf fn a.tmps ps assign body w.heap.size .ready none) (ownedBy [] (fun t => ιF (σ t))) (ownedBy [] (fun t => ιF (σ t))) W1 := by
    refine ⟨⟨ι,_,_,rP,fun b hb => ⟨noB _ b,noB _ b,.inl ?_⟩,fun b hb => ?_,fun b hb => .inl hb,fun b hb => .inl hb⟩,hL1,hD1,⟨fun h => ?_,fun h => ?_⟩,⟨by omega,Nat.le_refl _,by omega⟩,fun b hb => .inl (hOs b hb),fun b hb => .inl (hOs b hb),tr1⟩
    · obtain ⟨t,⟨kk,ht⟩,e⟩ := hb
      exact ⟨t,⟨kk,hHp t kk ht⟩,e⟩
    · rcases hb with hb | hb
      · exact ⟨Nat.lt_of_lt_of_le hb.1 sz1,fun ho => (hz0 _ b hb).1 (hOs b ho)⟩
      · exact ⟨Nat.lt_of_lt_of_le hb.1 sz1,fun ho => (hz0 _ b hb).1 (hOs b ho)⟩
    · have := howlt _ (hOs _ h); omega
    · have := howlt _ (hOs _ h); omega
  have hcall := hspec _ _ (fun t => ιF (σ t)) W1 v1 N [] none hcore hvr1 (w.heap.size + 1) _ _ (fun pre => ?_) ?_ hround.n ⟨x0,xs,rfl,hx,hJ0⟩
  · refine ⟨w.heap.size + 1,[markOf w.heap.size],W1,{ target := .fn (.func f) v1.toArray,args := #[.func (.yield (w.heap.size + 1)) #[] #[]] },W1,f,#[.func (.yield (w.heap.size + 1)) #[] #[]] ++ v1.toArray,W1,hen,?_,fun _ _ => trivial,?_,(fun h => by cases h),?_⟩
    · simp only [resolve,hge]
      simp [go_sem]
    · simp only [invoke]
      exact run_callFunc hable
    · have earr : (#[Value.func (.yield (w.heap.size + 1)) #[] #[]] ++ v1.toArray : Array Value) = (Value.func (.yield (w.heap.size + 1)) #[] #[] :: v1).toArray := by simp
      rw [earr]
      refine CallsIn.mono hcall ?_
      rintro e W2 ⟨⟨v,rfl⟩,O',I',hend⟩
      have own_l : ∀ {C : Ctx} {H : List (Nat × Blk)} {ι : Tags} {w : World} {b : Nat} {o : Obj},Core C H ι w → w.heap[b]? = some o → o.isCells = false → ¬ ownedBy H ι b := by
        intro C H ι w b o hc h ho hb
        obtain ⟨c,ty,n,h'⟩ := owned_lt hc hb
        rw [h] at h'
        cases h'
        simp [Obj.isCells] at ho
      -- the caller's state behind the loop
      have fin : ∀ (x : σx) (st : LoopState) (pe : Option Code),RgJ P N KB ι env a.tmps (Hp x) w (ownedBy s.heap ι) (zone ((rgFam P N ι0 r w00 Zs0 Zb0 T00).cx d) s.heap ι w) (w.heap.size + 1) w.heap.size (recOf fn a.tmps ps assign body w.heap.size st pe) O' I' W2 →
          ∀ o,∃ d' ι',(rgFam P N ι0 r w00 Zs0 Zb0 T00).H (some r) d' ∧ Rel ((rgFam P N ι0 r w00 Zs0 Zb0 T00).cx d') ⟨env,Hp x⟩ ι' { a with defers := [markOf w.heap.size] ++ a.defers } (W2.putObj (w.heap.size + 1) (.loop o)) := by
        intro x st pe hJ o
        obtain ⟨ι1,Zs,Zb,r1,h1,h2,h3,h4⟩ := hJ.st
        have kp : ∀ B,Kept B W2 (W2.putObj (w.heap.size + 1) (.loop o)) := fun B => Kept.putObj hJ.rc rfl
        have r2 := r1.part none (dfr := (w.heap.size :: d.ms).map markOf) (tm := a.tmps) rfl (fun _ _ h => h) (fun _ _ h => h) (KB := []) (ι0 := ι0) (fun _ h => by cases h) (kp _)
        have zs_of : ∀ b,ownedBy s.heap ι b → T00 b ∨ w00.heap.size ≤ b := fun b ⟨t,ht,e⟩ => by
          rcases rel.core.own t b ht e with h | h
          · have h : d.w0.heap.size ≤ b := h
            have := hR.tr.size
            exact .inr (by omega)
          · exact hR.own b h
        have trw : Trans T00 w00 w := hR.tr.comp rel.core.tr fun b hb => hR.own b hb
        have hw : w00.heap.size ≤ w.heap.size := trw.size
        have tr2 : Trans T00 w00 W2 := trw.comp hJ.tr fun b hb => zs_of b hb
        have zF : ∀ b,zone ((rgFam P N ι0 r w00 Zs0 Zb0 T00).cx d) s.heap ι w false b → Zs0 b ∨ T00 b ∨ w00.heap.size ≤ b := fun b hz => by
          rcases hz.2.2 with ⟨e0,_⟩ | h | h | h
          · cases e0
          · exact hR.zs b h
          · have h : d.w0.heap.size ≤ b := h
            have := hR.tr.size
            exact .inr (.inr (by omega))
          · exact .inr (hR.own b h)
        have zT : ∀ b,zone ((rgFam P N ι0 r w00 Zs0 Zb0 T00).cx d) s.heap ι w true b → Zb0 b ∨ Zs0 b ∨ T00 b ∨ w00.heap.size ≤ b := fun b hz => by
          rcases hz.2.2 with ⟨_,h⟩ | h | h | h
          · exact hR.zb b h
          · exact .inr (hR.zs b h)
          · have h : d.w0.heap.size ≤ b := h
            have := hR.tr.size
            exact .inr (.inr (.inr (by omega)))
          · exact .inr (.inr (hR.own b h))
        have zs3 : ∀ b,Zs b → Zs0 b ∨ T00 b ∨ w00.heap.size ≤ b := fun b hb => by
          rcases h3 b hb with h | h | h
          · exact zF b h
          · exact .inr (zs_of b h)
          · exact .inr (.inr (by omega))
        have zb3 : ∀ b,Zb b → Zb0 b ∨ Zs0 b ∨ T00 b ∨ w00.heap.size ≤ b := fun b hb => by
          rcases h4 b hb with h | h | h | h
          · exact zT b h
          · exact .inr (zF b h)
          · exact .inr (.inr (zs_of b h))
          · exact .inr (.inr (.inr (by omega)))
        have hold : ∀ B,B ∈ d.ms → w.heap[B]? = some (.deferred (some [])) ∧ w00.heap.size ≤ B := fun B hB => by
          obtain ⟨m1,m2,m3⟩ := hR.marks B hB
          have tr := rel.core.tr
          have : w.heap[B]? = d.w0.heap[B]? := tr.block B (Array.getElem?_eq_some_iff.1 m1).1 m2
          exact ⟨this.trans m1,m3⟩
        have hmk : ∀ B,B ∈ w.heap.size :: d.ms → (W2.putObj (w.heap.size + 1) (.loop o)).heap[B]? = some (.deferred (some [])) ∧ w00.heap.size ≤ B := fun B hB => by
          rcases List.mem_cons.1 hB with rfl | hB
          · exact ⟨(World.putObj_heap_other (by omega)).trans hJ.mark,hw⟩
          · obtain ⟨m1,m2⟩ := hold B hB
            have hlt := (Array.getElem?_eq_some_iff.1 m1).1
            refine ⟨(World.putObj_heap_other (by omega)).trans ?_,m2⟩
            rw [hJ.tr.block B hlt (own_l rel.core m1 rfl)]; exact m1
        refine ⟨⟨w.heap.size :: d.ms,W2.putObj (w.heap.size + 1) (.loop o),fun b => zone ⟨P,none,N,[],W2,Zs,Zb,ownedBy (Hp x) ι1,KB,ι⟩ (Hp x) ι1 W2 false b,fun b => zone ⟨P,none,N,[],W2,Zs,Zb,ownedBy (Hp x) ι1,KB,ι⟩ (Hp x) ι1 W2 true b,ownedBy (Hp x) ι1⟩,ι1,⟨rfl,tr2.putObj hJ.rc rfl (by omega),fun b hb => ?_,fun b hb => ?_,fun b hb => ?_,fun B hB => ⟨(hmk B hB).1,own_l r2.core (hmk B hB).1 rfl,(hmk B hB).2⟩,List.nodup_cons.2 ⟨fun hm => ?_,hR.nodup⟩⟩,?_⟩
        · rcases (h1 b hb).2.2 with h | h
          · exact zs_of b h
          · exact .inr (by omega)
        · rcases zone_at hb with ⟨e0,_⟩ | h
          · cases e0
          · exact zs3 b h
        · rcases zone_at hb with ⟨_,h⟩ | h
          · exact zb3 b h
          · exact .inr (zs3 b h)
        · have := (Array.getElem?_eq_some_iff.1 (hold _ hm).1).1
          omega
        · have ed : a.defers = d.ms.map markOf := rel.dfr
          have ea : ({ a with defers := [markOf w.heap.size] ++ a.defers } : Act) = ⟨a.tmps,(w.heap.size :: d.ms).map markOf⟩ := by
            rw [ed]; rfl
          rw [ea]
          exact r2
      rcases hend with ⟨x,rest,e1,e2,hJ⟩ | ⟨x,e3,c,hc,hM,hJ⟩
      · have : rest = [] := List.append_cancel_left (by rw [List.append_nil]; exact e1.symm)
        subst this
        rw [rangeL] at e2
        obtain ⟨d',ι',g1,g2⟩ := fin x _ _ hJ { recOf fn a.tmps ps assign body w.heap.size .ready none with state := .exhausted }
        refine ⟨none,_,run_endLoop hJ.rc (by simp [recOf]),?_⟩
        exact ⟨some r,⟨env,Hp x⟩,d',ι',g1,g2,hk x e2⟩
      · obtain ⟨d',ι',g1,g2⟩ := fin x _ _ hJ { recOf fn a.tmps ps assign body w.heap.size .done (some c) with state := .exhausted }
        refine ⟨some c,_,run_endLoop hJ.rc (by simp [recOf]),?_⟩
        rcases hc with ⟨rfl,rfl⟩ | ⟨id,rfl,rfl⟩
        · exact wpIn_ret ⟨some r,⟨env,Hp x⟩,d',ι',g1,g2,hstop _ x hM⟩
        · exact wpIn_exit ⟨some r,⟨env,Hp x⟩,d',ι',g1,g2,hstop _ x hM⟩
  · rintro O O' I I' W W' ⟨x,rest,e1,e2,hJ⟩ tr hO hI
    exact ⟨x,rest,e1,e2,RgJ.abide _ _ _ _ _ _ hJ tr hO hI⟩
  · rintro O O' I I' W W' ⟨x,e2,c,h1,h2,hJ⟩ tr hO hI
    exact ⟨x,e2,c,h1,h2,RgJ.abide _ _ _ _ _ _ hJ tr hO hI⟩
end
def AV.stillW : AV → Bool
  | .sc _ => true
  | .rd β _ _ => !β
  | .rptr β _ => !β
  | .clo _ a c => a.isEmpty && c.isEmpty
  | _ => false
theorem VR.stillW {w : World} {Z : Zone} {ι : Tags} {v : AV} {u : Value} (h : VR w Z ι v u) (hs : v.stillW = true) : VR w (fun _ => Z false) (fun _ => none) v u := by
  cases h <;> simp_all [AV.stillW]
  · exact .sc _ _ _
  · exact .rdnil _ _ _ _
  · exact .rd _ _ _ _ _ _ _ _ _ ‹_› ‹_› ‹_› ‹_› ‹_›
  · exact .rptr _ _ _ _ _ _ _ ‹_› ‹_› ‹_›
  · rename_i f a c us vs hu hl
    obtain ⟨rfl,rfl⟩ := hs
    exact .clo _ _ _ [] [] _ _ hu hl (fun i hi => absurd hi (by simp)) fun i hi => absurd hi (by simp)
theorem VC.stillB {C : Ctx} {s : St} {t : Nat} {E : TypeId} {cells : List AV} (hk : look t s.heap = some ⟨E,false,cells⟩) (hs : (cells.all AV.stillW) = true) (hne : cells ≠ []) : VC C s ⟨s.env,updH t ⟨E,true,cells⟩ s.heap⟩ :=
  VC.cellsW hk rfl rfl (.inr hne) (fun h => absurd h hne) fun j hj hj' w Z ι u hZ hv => hv.stillW (List.all_eq_true.1 hs _ (List.getElem_mem hj))
theorem VC.frzS {C : Ctx} {s : St} {t : Nat} {E : TypeId} {cells : List AV} (hk : look t s.heap = some ⟨E,false,cells⟩) (hs : (cells.all AV.stillW) = true) (hne : cells.isEmpty = false) : VC C s ⟨frzE t cells s.env,frzH t cells (updH t ⟨E,true,cells⟩ s.heap)⟩ :=
  (VC.stillB hk hs (fun h => by rw [h] at hne; cases hne)).trans (VC.freeze (look_updH_self _ _ ⟨_,hk⟩))
section
variable {C : Ctx} {s : St} {d : Nat} {ty : TypeId} {p : String} {e : Array Edge} {g : Option (Nat × Bool)} {x : Operand} {T E U : TypeId}
theorem AStep.rptrNil {β : Bool} {cells : List AV} (hd : d < C.N) (hx : Ev C s x (.rptr β cells)) (hT : C.P.underlying T = some (.pointer E)) (neg : Bool) :
    AStep C ⟨some d,.binOp (bif neg then .neq else .eql) T x (.const (.pointer none)) U,ty,p,e,g⟩ s (s.put d (.sc (.bool neg))) :=
  .val hd (fun _ h => by cases h) fun ι a w r => by
    obtain ⟨b,off,vs,hu,_⟩ := rptr_inv (hx ι a w r)
    refine ⟨.bool neg,?_,.sc _ _ _⟩
    have := eqPtr_run (w := w) (x := x) (o := some ⟨b,off,none⟩) hT neg
    have hn : a.eval (.const (.pointer none)) = .pointer none := rfl
    simp only [execOp,hu,hn]
    simp only [Sem.run_bind] at this ⊢
    rw [this]
    cases neg <;> simp
theorem AStep.rptrNil0 {β : Bool} {cells : List AV} (hd : d < C.N) (hx : Ev C s x (.rptr β cells)) (hT : C.P.underlying T = some (.pointer E)) :
    AStep C ⟨some d,.binOp .eql T x (.const (.pointer none)) U,ty,p,e,g⟩ s (s.put d (.sc (.bool false))) := AStep.rptrNil hd hx hT false
end
section
variable {E : Type} {P : Program} {N : Nat} {ι0 : Tags} {xs : List E} {Zs Zb : Nat → Prop} {J : List E → (Nat → Prop) → (Nat → Prop) → World → Prop} {Jx : (Nat → Prop) → (Nat → Prop) → World → Prop} {A : Array Oper} {ol : List Oper} {s : St}
theorem ARunY.n0 {l : Nat} {vals : E → List AV} {dst : Nat} {y : Operand} {args : Array Operand} {ats : Array TypeId} {ty : TypeId} {p : String} {ed : Array Edge} {x : E} {r rest : List E} {m : Option (List E)} {s' : Bool → St}
    (hJ : ∀ pre,Abide (J pre)) (hJx : Abide Jx) (hR : RoundOkN P l vals xs J Jx) (hyr : (false = false → r = x :: rest ∧ m = some rest) ∧ (false = true → r = [])) (hd : dst < N)
    (hy : ∀ d,Ev ((itFam P N ι0 xs Zs Zb J Jx).cx d) s y (.sc (.func (.yield l) #[] #[]))) (ha : ∀ d,EvV ((itFam P N ι0 xs Zs Zb J Jx).cx d) s args.toList (vals x)) (hzv : AV.zfL (vals x) = true) (hzE : zeB s.env = true) (hzH : ZH s.heap)
    (t : ∀ b d,ARun ((itFam P N ι0 xs Zs Zb J Jx).cx d) A ol (s.put dst (.sc (.bool b))) (s' b)) :
    ARunY (itFam P N ι0 xs Zs Zb J Jx) A (⟨some dst,.call { callee := .value y,args := args,argTypes := ats },ty,p,ed,none⟩ :: ol) (some r) s (fun b => (ghY false b r rest,s' b)) := by
  refine ARunY.yield (fun d ι a w K Q hH rel hk => ?_) t
  obtain ⟨rfl,_⟩ := hyr.1 rfl
  refine yieldStepN hJ hJx hR hd hy ha (zfL_mem hzv) hzE hzH K Q hH rel fun b d' ι' a' w' hH' r' => hk b d' ι' a' w' ?_ r'
  simp only [ghY]
  exact hH'
end
section
variable {P : Program} {N : Nat} {ι0 : Tags} {w00 : World} {Zs0 Zb0 T00 : Nat → Prop}
theorem AWPF.rangeNG {σx R E : Type} {r r1 : R} {Q : Exit → Option R → St → Prop} {s sF : St} {g : Operand} {ps : Array Nat} {assign body : Code} {f : FuncId} {avs cs : List AV} {vals : E → List AV} {xs : List E} {σ : Nat → Nat}
    {Hp : σx → List (Nat × Blk)} {Hb : E → σx → List (Nat × Blk)} {step : (σx → Option R) → E → σx → Option R} {k : σx → Option R} {env : List (Nat × AV)} {x0 : σx} {KB : List Nat} {envb : E → σx → List (Nat × AV)} {M : Exit → σx → Prop}
    (hS : ItSpecN P f avs [] vals xs) (hF : ∀ d,VC ((rgFam P N ι0 r w00 Zs0 Zb0 T00).cx d) s sF) (hg : ∀ d,Ev ((rgFam P N ι0 r w00 Zs0 Zb0 T00).cx d) sF g (.clo (.func f) [] cs)) (hcs : ∀ d,CvL ((rgFam P N ι0 r w00 Zs0 Zb0 T00).cx d) sF σ [] false cs avs)
    (hHp : SubH (Hp x0) s.heap) (henv : SubE env s.env) (htag : tagB KB env = true)
    (hx : rangeL step xs k x0 = some r1) (hB : ∀ l,BodyOk P N l KB env Hp Hb step r1 vals ps assign body envb M)
    (hk : ∀ x,k x = some r1 → Q .normal (some r1) ⟨env,Hp x⟩) (hstop : ∀ e x,M e x → Q e (some r1) ⟨env,Hp x⟩) :
    AWPF (rgFam P N ι0 r w00 Zs0 Zb0 T00) (.rangeFunc g ps assign body) Q (some r1) s := by
  intro d ι a w hR rel
  obtain rfl := Option.some.inj hR.g
  refine AWPF.rangeN hS hF hg hcs (fun t kk h => hHp.look h) (fun t v h => henv.look h) (fun t v h t' hf => ?_) hx hB hk hstop d ι a w hR rel
  unfold tagB at htag
  rw [List.all_eq_true] at htag
  have h1 := htag (t,v) (mem_of_look h)
  rw [List.all_eq_true] at h1
  exact anyT_iff.1 (h1 t' (AV.tags_of_free hf))
end
end Go.AB
