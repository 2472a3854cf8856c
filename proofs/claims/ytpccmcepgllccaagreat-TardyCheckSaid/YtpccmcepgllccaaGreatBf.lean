import Derived.Test.YtpccmcepgllccaaGreatBc
import Derived.Test.YtpccmcepgllccaaGreatBe
import Derived.SizedLaws
set_option linter.unusedVariables false
namespace Go.AB
open Go Go.ChangeShapes Go.WideShapes Go.ChangeAt Go.RowKit
theorem weightsAll_mem {H : Type} {P : Program} {e : TypeId} {d : DataW H} {n : Nat} : ∀ {l : List (DataW H)},d ∈ l → n ∈ d.weights P e → n ∈ DataW.weightsAll P e l
  | x :: l,h,hn => by
    simp only [DataW.weightsAll,List.mem_append]
    rcases List.mem_cons.1 h with rfl | h
    · exact .inl hn
    · exact .inr (weightsAll_mem h hn)
theorem weightsEach_more {H : Type} {P : Program} {n : Nat} {more : List TypeId} : ∀ {ts : List TypeId} {ds : List (DataW H)},n ∈ DataW.weightsEach P ts ds → n ∈ DataW.weightsEach P (ts ++ more) ds
  | [],_,h => by simp [DataW.weightsEach] at h
  | t :: ts,[],h => by simp [DataW.weightsEach] at h
  | t :: ts,d :: ds,h => by
    simp only [DataW.weightsEach,List.mem_append,List.cons_append] at h ⊢
    rcases h with h | h
    · exact .inl h
    · exact .inr (weightsEach_more h)
def OpW (P : Program) (T : TypeId) {α : Type} (enc : α → List AV) (wf : α → Prop) : Prop :=
  ∀ (H : Type) (e : TypeId × Value → H) (W : World) (fuel : Nat) (cs : List Value) (x : DataW H × List MemPlace),DataW.trod e P W 0 (fun _ => true) true fuel T cs = some x → (∀ n ∈ x.1.weights P T,n ≤ reachBytes) →
    ∃ y,wf y ∧ cs.length = (enc y).length ∧ ∀ i (hi : i < (enc y).length),∃ u,cs[i]? = some u ∧ VR W (oldZ W) noT ((enc y)[i]'hi) u
def OpN (P : Program) (T : TypeId) {α : Type} (enc : α → List AV) (wf : α → Prop) (N : Nat) : Prop :=
  ∀ (H : Type) (e : TypeId × Value → H) (W : World) (fuel : Nat) (cs : List Value) (x : DataW H × List MemPlace),fuel ≤ N → DataW.trod e P W 0 (fun _ => true) true fuel T cs = some x → (∀ n ∈ x.1.weights P T,n ≤ reachBytes) →
    ∃ y,wf y ∧ cs.length = (enc y).length ∧ ∀ i (hi : i < (enc y).length),∃ u,cs[i]? = some u ∧ VR W (oldZ W) noT ((enc y)[i]'hi) u
theorem OpC.n {P : Program} {T : TypeId} {α : Type} {enc : α → List AV} {wf : α → Prop} {N : Nat} (h : OpC P T enc wf) : OpN P T enc wf N := fun H e W fuel cs x _ hx _ => h H e W fuel cs x hx
theorem OpN.w {P : Program} {T : TypeId} {α : Type} {enc : α → List AV} {wf : α → Prop} (h : ∀ N,OpN P T enc wf N) : OpW P T enc wf := fun H e W fuel cs x hx hz => h fuel H e W fuel cs x (Nat.le_refl _) hx hz
theorem OpN.less {P : Program} {T : TypeId} {α : Type} {enc : α → List AV} {wf : α → Prop} {N N' : Nat} (h : OpN P T enc wf N) (hN : N' ≤ N) : OpN P T enc wf N' := fun H e W fuel cs x hf hx hz => h H e W fuel cs x (Nat.le_trans hf hN) hx hz
theorem OpN.zero {P : Program} {T : TypeId} {α : Type} {enc : α → List AV} {wf : α → Prop} : OpN P T enc wf 0 := fun H e W fuel cs x hf hx hz => by
  have : fuel = 0 := by omega
  subst this
  simp [DataW.trod] at hx
theorem OpN.map {P : Program} {T : TypeId} {α β : Type} {enc : α → List AV} {wf : α → Prop} {enc' : β → List AV} {wf' : β → Prop} {N : Nat} (f : α → β) (h : OpN P T enc wf N) (he : ∀ y,enc' (f y) = enc y) (hw : ∀ y,wf y → wf' (f y)) : OpN P T enc' wf' N :=
  fun H e W fuel cs x hf hx hz => by
    obtain ⟨y,h1,h2,h3⟩ := h H e W fuel cs x hf hx hz
    refine ⟨f y,hw y h1,by rw [he]; exact h2,?_⟩
    rw [he]; exact h3
theorem OpN.slice {P : Program} {T E : TypeId} {α : Type} {enc : α → List AV} {wf : α → Prop} {sz : Nat} (hT : P.underlying T = some (.slice E)) (hc : P.cellsOf E = sz) (hpos : 0 < sz)
    (henc : ∀ y,(enc y).length = sz) {N : Nat} (hE : OpN P E enc wf N) : OpN P T (fun ys : List α => [.rd false ys.length (ys.flatMap enc)]) (fun ys => (ys.length ≤ maxLen ∧ ys.length * P.bytesOf E ≤ reachBytes) ∧ ∀ y,y ∈ ys → wf y) (N + 1) := fun H e W fuel cs x hN h hz => by
  rcases DataW.trod_slice hT h with ⟨rfl,_⟩ | ⟨a,len,cap,elems,rest,n,hfu,rfl,hxe,_,hl,hm,hlen,hel,hsp,_⟩
  rotate_left
  have hreach : len * P.bytesOf E ≤ reachBytes := by
    have := hz ((((elems.map (·.1)).length + (rest.map (·.1)).length)) * P.bytesOf E) (by rw [hxe]; simp [DataW.weights,hT])
    have h2 : len ≤ (elems.map (·.1)).length + (rest.map (·.1)).length := by simp only [List.length_map]; omega
    exact Nat.le_trans (Nat.mul_le_mul_right _ h2) this
  rotate_left
  · exact ⟨[],⟨⟨Nat.zero_le _,by simp⟩,fun y hy => by cases hy⟩,rfl,one_row (.rdnil _ _ _ _)⟩
  · rcases Nat.eq_zero_or_pos cap with h0 | h0
    · subst h0
      have : len = 0 := by omega
      subst this
      exact ⟨[],⟨⟨Nat.zero_le _,by simp⟩,fun y hy => by cases hy⟩,rfl,one_row (.rdnil _ _ _ _)⟩
    · have cell : ∀ q,q < cap → ∀ r,r < sz → ∃ u,W.cell? ((a.add (q * sz)).add r) = some u := by
        intro q hq r hr
        have hb : ∃ c,(W.cells? 0 (a.add (q * P.cellsOf E)) (P.cellsOf E)) = some c := by
          by_cases hi : q < len
          · have h1 := hel q hi
            rw [List.getElem?_eq_getElem (by omega)] at h1
            obtain ⟨c,hcc,_⟩ := Option.bind_eq_some_iff.1 h1
            exact ⟨c,hcc⟩
          · obtain ⟨hrl,hr'⟩ := hsp rfl
            have h1 := hr' (q - len) (by omega)
            rw [List.getElem?_eq_getElem (by omega),show len + (q - len) = q by omega] at h1
            obtain ⟨c,hcc,_⟩ := Option.bind_eq_some_iff.1 h1
            exact ⟨c,hcc⟩
        obtain ⟨c,hcc⟩ := hb
        rw [hc] at hcc
        obtain ⟨_,h2,h3⟩ := World.cells?_some hcc
        have h4 := h3 r hr
        rw [List.getElem?_eq_getElem (by omega)] at h4
        exact ⟨_,h4⟩
      have hspot : a.spot = none := by
        obtain ⟨u,hu⟩ := cell 0 h0 0 hpos
        rw [show (a.add (0 * sz)).add 0 = a by simp [Addr.add]] at hu
        unfold World.cell? at hu
        cases hs : a.spot with
        | none => rfl
        | some s =>
          rw [hs] at hu
          split at hu <;> simp at hu
      obtain ⟨b,off,sp⟩ := a
      simp only at hspot
      subst hspot
      have hq : ∀ q,q < len → ∃ y,wf y ∧ ∀ r (hr : r < (enc y).length),∃ u,W.cell? ⟨b,off + (q * sz + r),none⟩ = some u ∧ VR W (oldZ W) noT ((enc y)[r]'hr) u := by
        intro q hq
        have h1 := hel q hq
        rw [List.getElem?_eq_getElem (by omega)] at h1
        obtain ⟨c,hcc,ht⟩ := Option.bind_eq_some_iff.1 h1
        obtain ⟨y,hy,hyl,hv⟩ := hE H e W n c _ (by omega) ht (fun m hm => hz m (by
          rw [hxe]
          simp only [DataW.weights,hT,List.mem_cons,List.mem_append]
          exact .inr (.inl (weightsAll_mem (d := (elems[q]'(by omega)).1) (List.mem_map.2 ⟨_,List.getElem_mem _,rfl⟩) hm))))
        refine ⟨y,hy,fun r hr => ?_⟩
        obtain ⟨u,hu,hvr⟩ := hv r hr
        rw [hc] at hcc
        have := (World.cells?_some hcc).2.2 r (by rw [henc] at hr; exact hr)
        refine ⟨u,?_,hvr⟩
        rw [Addr.add_plain,Addr.add_plain] at this
        rw [← Nat.add_assoc,this,hu]
      obtain ⟨ys,hyl,hys⟩ := list_of len hq
      have hcl := flatMap_length henc ys
      refine ⟨ys,⟨⟨by rw [hyl]; omega,by rw [hyl]; exact hreach⟩,fun y hy => ?_⟩,rfl,one_row ?_⟩
      · obtain ⟨i,hi⟩ := List.getElem?_of_mem hy
        exact (hys i y hi).1
      · rw [hyl]
        have hcell : ∀ i,i < (ys.flatMap enc).length → W.cell? ⟨b,off + i,none⟩ = some ((W.cell? ⟨b,off + i,none⟩).getD undef) := by
          intro i hi
          have hi' : i < ys.length * sz := by omega
          have hq' : i / sz < len := by rw [← hyl]; exact Nat.div_lt_of_lt_mul (by rw [Nat.mul_comm]; exact hi')
          obtain ⟨u,hu⟩ := cell (i / sz) (by omega) (i % sz) (Nat.mod_lt _ hpos)
          rw [Addr.add_plain,Addr.add_plain,Nat.add_assoc,show i / sz * sz + i % sz = i by rw [Nat.mul_comm]; exact Nat.div_add_mod i sz] at hu
          rw [hu]
          rfl
        refine .rd _ _ false len _ b off cap (fun i => (W.cell? ⟨b,off + i,none⟩).getD undef) (fun hne => ?_) hl hm hcell ?_
        · have : 0 < (ys.flatMap enc).length := by
            rcases Nat.eq_zero_or_pos (ys.flatMap enc).length with h1 | h1
            · exact absurd (List.length_eq_zero_iff.1 h1) hne
            · exact h1
          exact cell_lt (hcell 0 this)
        · refine flat_cells henc hpos fun q y hy r hr => ?_
          obtain ⟨u,hu,hv⟩ := (hys q y hy).2 r hr
          rw [hu]
          exact hv
inductive OpFN (P : Program) (N : Nat) : List TypeId → {σ : Type} → (σ → List AV) → (σ → Prop) → Prop
  | nil : OpFN P N [] (σ := Unit) (fun _ => []) (fun _ => True)
  | cons {T : TypeId} {Ts : List TypeId} {α σ : Type} {enc : α → List AV} {wf : α → Prop} {avs : σ → List AV} {wfs : σ → Prop} (h : OpN P T enc wf N) (t : OpFN P N Ts avs wfs) :
      OpFN P N (T :: Ts) (σ := α × σ) (fun x => enc x.1 ++ avs x.2) (fun x => wf x.1 ∧ wfs x.2)
theorem OpFN.open {N : Nat} {P : Program} {Ts : List TypeId} {σ : Type} {avs : σ → List AV} {wfs : σ → Prop} (h : OpFN P N Ts avs wfs) {H : Type} {e : TypeId × Value → H} {W : World} {m : Nat} {cs : List Value} :
    ∀ {fs : List Field} {k n : Nat},fs.map (·.type) = Ts → consec P k fs = some n → cs.length = n →
      (hm : m ≤ N) → (∀ f,f ∈ fs → ∃ x,DataW.trod e P W 0 (fun _ => true) true m f.type ((cs.drop f.offset).take (P.cellsOf f.type)) = some x ∧ ∀ n ∈ x.1.weights P f.type,n ≤ reachBytes) →
      ∃ x,wfs x ∧ k + (avs x).length = n ∧ ∀ i (hi : i < (avs x).length),∃ u,cs[k + i]? = some u ∧ VR W (oldZ W) noT ((avs x)[i]'hi) u := by
  induction h with
  | nil =>
    intro fs k n hf hk hl _ _
    have : fs = [] := by simpa using hf
    subst this
    cases hk
    exact ⟨(),trivial,rfl,fun i hi => absurd hi (by simp)⟩
  | @cons T Ts α σ enc wf avs wfs h t ih =>
    intro fs k n hf hk hl hm hall
    match fs,hf with
    | f :: fs,hf0 =>
      simp only [List.map_cons,List.cons.injEq] at hf0
      obtain ⟨rfl,hf1⟩ := hf0
      unfold consec at hk
      split at hk
      · rename_i hoff
        have hle := consec_le hk
        obtain ⟨x0,hx0,hz0⟩ := hall f (by simp)
        obtain ⟨y,hy,hyl,hv⟩ := h H e W m _ _ hm hx0 hz0
        obtain ⟨x,hx,hxl,hvs⟩ := ih hf1 hk hl hm fun g hg => hall g (by simp [hg])
        have hn : (enc y).length = P.cellsOf f.type := by
          rw [← hyl,List.length_take,List.length_drop]
          omega
        refine ⟨(y,x),⟨hy,hx⟩,by simp only [List.length_append]; omega,fun i hi => ?_⟩
        rcases Nat.lt_or_ge i (enc y).length with hlt | hge
        · obtain ⟨u,hu,hvr⟩ := hv i hlt
          refine ⟨u,?_,by rw [List.getElem_append_left hlt]; exact hvr⟩
          rw [List.getElem?_take_of_lt (by omega),List.getElem?_drop,hoff] at hu
          exact hu
        · obtain ⟨u,hu,hvr⟩ := hvs (i - (enc y).length) (by simp only [List.length_append] at hi; omega)
          refine ⟨u,?_,by rw [List.getElem_append_right hge]; exact hvr⟩
          rw [← hn,show k + (enc y).length + (i - (enc y).length) = k + i by omega] at hu
          exact hu
      · cases hk
theorem OpN.struct {N : Nat} {P : Program} {T : TypeId} {fs : Array Field} {Ts : List TypeId} {σ R : Type} {avs : σ → List AV} {wfs : σ → Prop} {enc : R → List AV} {wf : R → Prop} (hT : P.underlying T = some (.struct fs))
    (hfs : fs.toList.map (·.type) = Ts) (hk : consec P 0 fs.toList = some (P.cellsOf T)) (h : OpFN P N Ts avs wfs) (mk : σ → R) (he : ∀ x,enc (mk x) = avs x) (hw : ∀ x,wfs x → wf (mk x)) : OpN P T enc wf (N + 1) :=
  fun H e W fuel cs x hN hx hz => by
    obtain ⟨xs,n,rfl,hxe,hl,hxl,hall⟩ := DataW.trod_struct hT hx
    obtain ⟨y,hy,hyl,hv⟩ := h.open (cs := cs) (m := n) hfs hk hl (by omega) fun f hf => by
      obtain ⟨i,hi⟩ := List.getElem?_of_mem hf
      have hi' : fs[i]? = some f := by simpa using hi
      have h1 := hall i f hi'
      have : i < xs.length := by
        rw [hxl]
        exact (Array.getElem?_eq_some_iff.1 hi').1
      rw [List.getElem?_eq_getElem this] at h1
      refine ⟨_,h1,fun m hm => hz m ?_⟩
      rw [hxe]
      simp only [DataW.weights,hT]
      refine DataW.weights_mem_each (j := i) (t := f.type) ?_ (d := (xs[i]).1) ?_ _ hm
      · rw [List.getElem?_map,hi]; rfl
      · rw [List.getElem?_map,List.getElem?_eq_getElem this]; rfl
    refine ⟨mk y,hw y hy,by rw [he]; omega,fun i hi => ?_⟩
    have hi' : i < (avs y).length := by rw [he] at hi; exact hi
    obtain ⟨u,hu,hvr⟩ := hv i hi'
    refine ⟨u,by simpa using hu,?_⟩
    have : (enc (mk y))[i]'hi = (avs y)[i]'hi' := by
      have h1 : (enc (mk y))[i]? = (avs y)[i]? := by rw [he]
      rw [List.getElem?_eq_getElem hi,List.getElem?_eq_getElem hi'] at h1
      exact Option.some.inj h1
    rw [this]
    exact hvr
def OpensW (P : Program) (T : TypeId) {α : Type} (av : α → AV) (wf : α → Prop) : Prop :=
  ∀ (H : Type) (enc : TypeId × Value → H) (W : World) (base : Nat) (v : Value) (d : DataW H) (ps : List MemPlace),Value.okWide P W .any base T v → DataW.Trod enc P W 0 (fun _ => true) true T v d ps → (∀ n ∈ d.weights P T,n ≤ reachBytes) →
    ∃ y,wf y ∧ VR W (oldZ W) noT (av y) v
theorem Opens.w {P : Program} {T : TypeId} {α : Type} {av : α → AV} {wf : α → Prop} (h : Opens P T av wf) : OpensW P T av wf := fun H enc W base v d ps h1 h2 _ => h H enc W base v d ps h1 h2
theorem OpW.aggs {P : Program} {T : TypeId} {α : Type} {enc : α → List AV} {wf : α → Prop} (hT : ∃ D,P.underlying T = some D ∧ match D with | .struct _ => True | .array _ _ => True | _ => False)
    (h : OpW P T enc wf) : OpensW P T (fun y => .agg (enc y)) wf := fun H e W base v d ps hval hd hz => by
  obtain ⟨fuel,hf⟩ := hd
  obtain ⟨D,hD,hm⟩ := hT
  have hv0 : ∃ cs,v = .agg cs := by
    simp only [Value.okWide,hD] at hval
    cases D with
    | struct fs => obtain ⟨cs,hcs,_⟩ := hval; exact ⟨cs,hcs⟩
    | array n E => obtain ⟨cs,hcs,_⟩ := hval; exact ⟨cs,hcs⟩
    | _ => exact absurd hm (by simp)
  obtain ⟨cs,rfl⟩ := hv0
  obtain ⟨y,hy,hl,hv⟩ := h H e W fuel _ _ hf hz
  refine ⟨y,hy,?_⟩
  have hcs : (Value.agg cs).cells.toList = cs.toList := rfl
  rw [hcs] at hl hv
  have := VR.agg (w := W) (oldZ W) noT (enc y) cs.toList hl fun i hi => by
    obtain ⟨u,hu,hvr⟩ := hv i hi
    rw [List.getElem?_eq_getElem (by omega)] at hu
    rw [Option.some.inj hu]
    exact hvr
  simpa using this
inductive OpensLW (P : Program) : List TypeId → {σ : Type} → (σ → List AV) → (σ → Prop) → Prop
  | nil : OpensLW P [] (σ := Unit) (fun _ => []) (fun _ => True)
  | cons {T : TypeId} {Ts : List TypeId} {α σ : Type} {av : α → AV} {wf : α → Prop} {avs : σ → List AV} {wfs : σ → Prop} (h : OpensW P T av wf) (t : OpensLW P Ts avs wfs) :
      OpensLW P (T :: Ts) (σ := α × σ) (fun x => av x.1 :: avs x.2) (fun x => wf x.1 ∧ wfs x.2)
theorem OpensLW.open {P : Program} {Ts : List TypeId} {σ : Type} {avs : σ → List AV} {wfs : σ → Prop} (h : OpensLW P Ts avs wfs) {H : Type} {enc : TypeId × Value → H} {W : World} {base : Nat} :
    ∀ {vs : List Value} {ds : List (DataW H)} {ps : List MemPlace},(∀ (j : Nat) t v,Ts[j]? = some t → vs[j]? = some v → Value.okWide P W .any base t v) → DataW.TrodAll enc P W 0 (fun _ => true) true Ts vs ds ps → (∀ n ∈ DataW.weightsEach P Ts ds,n ≤ reachBytes) →
      ∃ x,wfs x ∧ VRs W (oldZ W) noT (avs x) vs := by
  induction h with
  | nil =>
    intro vs ds ps _ ht _
    obtain ⟨rfl,_,_⟩ := trodAll_nil ht
    exact ⟨(),trivial,rfl,fun i hi => absurd hi (by simp)⟩
  | cons h t ih =>
    intro vs ds ps hval ht hz
    obtain ⟨v0,vs0,d0,ds0,p0,q0,rfl,rfl,rfl,h0,r0⟩ := trodAll_cons ht
    obtain ⟨y,hy,hv⟩ := h H enc W base v0 d0 p0 (hval 0 _ v0 rfl rfl) h0 (fun n hn => hz n (by simp only [DataW.weightsEach,List.mem_append]; exact .inl hn))
    obtain ⟨x,hx,hl,hvs⟩ := ih (fun j t v ht hv => hval (j + 1) t v ht hv) r0 (fun n hn => hz n (by simp only [DataW.weightsEach,List.mem_append]; exact .inr hn))
    refine ⟨(y,x),⟨hy,hx⟩,by simp [hl],fun i hi => ?_⟩
    cases i with
    | zero => exact ⟨v0,rfl,hv⟩
    | succ i => exact hvs i (by simpa using hi)
theorem law_contractW {P : Program} {fn : Func} {k : FuncId} {B : TypeId} {s : ChangeSpec} (hl : laidOutB P = true) (hts : fn.params.toList.all (fun t => P.readableRec t && decide (t < P.types.size)) = true)
    (hres : fn.resultTypes = #[B]) (hB : P.underlying B = some .bool) (hvars : s.vars = []) {σ : Type} {avs : σ → List AV} {wfs : σ → Prop} (ho : OpensLW P fn.params.toList avs wfs)
    (hfn : ∀ (H : Type) (ds : List (DataW H)),ds.length = fn.params.toList.length → s.fn H ds = { results := [.lit (.bool true)],args := ds })
    (H : Type) (enc : TypeId × Value → H) (W : World) (base : Nat) (args : Array Value) (ds gs : List (DataW H)) (before : List MemPlace)
    (hS : ∀ x,wfs x → Spec P k [] (avs x) [] (.sc (.bool true)) [])
    (hval : ∀ (j : Nat) t v,fn.params[j]? = some t → args[j]? = some v → Value.okWide P W .any base t v)
    (hW : DataW.Whole enc P fn.params.toList s.vars false W args.toList ds gs before)
    (hz : (DataW.weightsEach P (fn.params.toList ++ s.plain.varTypes P) (ds ++ gs)).all (· ≤ reachBytes) = true) :
    Calls P k args W fun e W' => ∃ v,e = .returned v ∧ s.post enc P fn false true false false W args v W' := by
  have hW' := hW
  obtain ⟨p,q,hA0,hV,rfl,hfz,hnd⟩ := hW
  have hA : DataW.TrodAll enc P W 0 (fun _ => true) true fn.params.toList args.toList ds p := hA0
  rw [hvars] at hV
  obtain ⟨rfl,rfl⟩ := trodVars_none hV
  obtain ⟨x,hx,hvr⟩ := ho.open (base := base) (fun j t v ht hv => hval j t v (by simpa using ht) (by simpa using hv)) hA (fun n hn => by
    have h1 : n ∈ DataW.weightsEach P (fn.params.toList ++ s.plain.varTypes P) (ds ++ []) := by
      rw [List.append_nil]
      exact weightsEach_more hn
    exact of_decide_eq_true (List.all_eq_true.1 hz _ h1))
  have key := law_calls (hS x hx) hvr
  rw [show args.toList.toArray = args from by simp] at key
  refine key.mono fun e W' he => ?_
  obtain ⟨v,he,⟨Z,ι,hv⟩,hb⟩ := he
  have hv' := sc_inv hv
  subst hv'
  have hfn' := hfn H ds (trodAll_len hA).2
  have hlt : ∀ x ∈ p,x.block < W.heap.size := fun x hx => by simpa using hW'.lt x (by simpa using hx)
  have hr : ∀ (b : Nat) (sp : Nat → Bool) (hd : Bool),DataW.TrodAll enc P W' b sp hd fn.resultTypes.toList ((Value.bool true).resultList fn.resultTypes.size) (s.fn H ds).results [] := fun b sp hd => by
    rw [hfn',hres]
    exact trodAll_cons_mk (shut_bool hB _) trodAll_mk0
  have ha : ∀ sp : Nat → Bool,(∀ x ∈ p,sp x.block = true) → DataW.TrodAll enc P W' 0 sp true fn.params.toList args.toList (s.fn H ds).args p := fun sp hsp => by
    rw [hfn']
    exact trodAll_stays hl hb hts hA hlt hsp
  have hvs : ∀ sp : Nat → Bool,DataW.TrodVars enc P W' sp s.vars (s.fn H ds).vars [] := fun sp => by
    rw [hvars,hfn']
    rfl
  refine ⟨_,he,ds,[],p ++ [],[],p,[],hW',?_,?_,?_,hb.frame _,fun _ => ?_⟩
  · rw [List.append_nil]; exact hr _ _ _
  · rw [List.append_nil]; exact ha _ (fun x hx => by simpa using hlt x hx)
  · rw [List.append_nil]; exact hvs _
  · rw [List.append_nil]
    refine ⟨ok_one hres rfl (okWide_bool_mk hB _),_,_,([] ++ p) ++ [],⟨[] ++ p,[],trodAll_append (ha _ (fun _ _ => rfl)) (hr _ _ _),hvs _,rfl,fun b off hp => ?_,fun hap => ?_⟩,fun x hx _ => ?_⟩
    · have hp' : MemPlace.cell b off ∈ p := by simpa using hp
      rw [hb.frozen (p := ⟨b,off,none⟩) (hlt _ hp')]
      exact hfz b off (by simpa using hp')
    · have := hnd hap
      simpa using this
    · simpa using hx
end Go.AB
