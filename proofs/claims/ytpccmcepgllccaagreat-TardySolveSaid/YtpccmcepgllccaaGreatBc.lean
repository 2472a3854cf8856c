import Derived.Test.YtpccmcepgllccaaGreatBb
import Derived.WalkKit
import Derived.ProofKit
import Derived.OpenShut
import Derived.JoinedCond
import Derived.Carry
import Derived.SliceStrings
import Derived.ChangeArms
import Derived.Below
import Derived.RangeFuncLeaves
import Derived.RangeFuncRecord
import Derived.RangeFuncSeq
import Derived.RangeFuncFrom
namespace Go.AB
open Go Go.ChangeShapes Go.WideShapes Go.ChangeAt Go.RowKit
abbrev oldZ (w : World) : Zone := fun _ b => b < w.heap.size
abbrev noT : Tags := fun _ => none
theorem law_calls {P : Program} {k : FuncId} {avs : List AV} {r : AV} (hS : Spec P k [] avs [] r []) {w : World} {vs : List Value} (hv : VRs w (oldZ w) noT avs vs) :
    Calls P k vs.toArray w fun e w' => ∃ v,e = .returned v ∧ (∃ Z ι,VR w' Z ι r v) ∧ Below w.heap.size w w' := by
  have hno : ∀ t,¬ has t ([] : List (Nat × Blk)) := fun t ⟨k,hk⟩ => by cases hk
  have h := hS.2 (fun _ => True) (fun _ => False) noT w vs 0 [] none
    ⟨fun t k hk => (by cases hk),fun t t' b ht => absurd ht (hno t),fun t b ht => absurd ht (hno t),Trans.refl _ _⟩
    ⟨hv.1,fun i hi => by
      obtain ⟨u,hu,hr⟩ := hv.2 i hi
      exact ⟨u,hu,hr.mono (fun _ _ h => h) _ _ (fun β b hb => ⟨hb,fun t ht => absurd ht (hno t),.inr (.inl trivial)⟩) (fun _ _ _ _ _ h => h) (fun _ _ _ h => h)⟩⟩
  have h' : CallsIn Fence.wide 0 P k vs.toArray w _ := h
  refine (callsIn_wide.1 h').mono fun e w' ⟨v,ι',he,hc,hr,_⟩ => ⟨v,he,⟨_,_,hr⟩,?_⟩
  have tr := hc.tr
  exact ⟨tr.os,tr.tape,tr.output,tr.size,fun k hk => tr.block k hk fun ⟨t,ht,_⟩ => hno t ht⟩
def Opens (P : Program) (T : TypeId) {α : Type} (av : α → AV) (wf : α → Prop) : Prop :=
  ∀ (H : Type) (enc : TypeId × Value → H) (W : World) (base : Nat) (v : Value) (d : DataW H) (ps : List MemPlace),Value.okWide P W .any base T v → DataW.Trod enc P W 0 (fun _ => true) true T v d ps →
    ∃ y,wf y ∧ VR W (oldZ W) noT (av y) v
theorem cell_lt {w : World} {a : Addr} {v : Value} (h : w.cell? a = some v) : a.block < w.heap.size := by
  unfold World.cell? at h
  cases hb : w.heap[a.block]? with
  | none => rw [hb] at h; cases h
  | some o => exact (Array.getElem?_eq_some_iff.1 hb).1
inductive OpensL (P : Program) : List TypeId → {σ : Type} → (σ → List AV) → (σ → Prop) → Prop
  | nil : OpensL P [] (σ := Unit) (fun _ => []) (fun _ => True)
  | cons {T : TypeId} {Ts : List TypeId} {α σ : Type} {av : α → AV} {wf : α → Prop} {avs : σ → List AV} {wfs : σ → Prop} (h : Opens P T av wf) (t : OpensL P Ts avs wfs) :
      OpensL P (T :: Ts) (σ := α × σ) (fun x => av x.1 :: avs x.2) (fun x => wf x.1 ∧ wfs x.2)
theorem OpensL.open {P : Program} {Ts : List TypeId} {σ : Type} {avs : σ → List AV} {wfs : σ → Prop} (h : OpensL P Ts avs wfs) {H : Type} {enc : TypeId × Value → H} {W : World} {base : Nat} :
    ∀ {vs : List Value} {ds : List (DataW H)} {ps : List MemPlace},(∀ (j : Nat) t v,Ts[j]? = some t → vs[j]? = some v → Value.okWide P W .any base t v) → DataW.TrodAll enc P W 0 (fun _ => true) true Ts vs ds ps →
      ∃ x,wfs x ∧ VRs W (oldZ W) noT (avs x) vs := by
  induction h with
  | nil =>
    intro vs ds ps _ ht
    obtain ⟨rfl,_,_⟩ := trodAll_nil ht
    exact ⟨(),trivial,rfl,fun i hi => absurd hi (by simp)⟩
  | cons h t ih =>
    intro vs ds ps hval ht
    obtain ⟨v0,vs0,d0,ds0,p0,q0,rfl,rfl,rfl,h0,r0⟩ := trodAll_cons ht
    obtain ⟨y,hy,hv⟩ := h H enc W base v0 d0 p0 (hval 0 _ v0 rfl rfl) h0
    obtain ⟨x,hx,hl,hvs⟩ := ih (fun j t v ht hv => hval (j + 1) t v ht hv) r0
    refine ⟨(y,x),⟨hy,hx⟩,by simp [hl],fun i hi => ?_⟩
    cases i with
    | zero => exact ⟨v0,rfl,hv⟩
    | succ i => exact hvs i (by simpa using hi)
theorem trodAll_stays {P : Program} (hl : laidOutB P = true) {H : Type} {enc : TypeId × Value → H} {W W' : World} (hb : Below W.heap.size W W') {sp : Nat → Bool} :
    ∀ {Ts : List TypeId} {vs : List Value} {ds : List (DataW H)} {ps : List MemPlace},Ts.all (fun t => P.readableRec t && decide (t < P.types.size)) = true → DataW.TrodAll enc P W 0 (fun _ => true) true Ts vs ds ps →
      (∀ p ∈ ps,p.block < W.heap.size) → (∀ p ∈ ps,sp p.block = true) → DataW.TrodAll enc P W' 0 sp true Ts vs ds ps
  | [],vs,ds,ps,_,ht,_,_ => by
    obtain ⟨rfl,rfl,rfl⟩ := trodAll_nil ht
    exact trodAll_mk0
  | T :: Ts,vs,ds,ps,hr,ht,hlt,hs => by
    obtain ⟨v0,vs0,d0,ds0,p0,q0,rfl,rfl,rfl,h0,r0⟩ := trodAll_cons ht
    rw [List.all_cons,Bool.and_eq_true,Bool.and_eq_true] at hr
    refine trodAll_cons_mk (WideElems.Trod_stays hl hr.1.1 (of_decide_eq_true hr.1.2) h0 (fun x hx => hb.same (hlt x (List.mem_append_left _ hx))) (fun x hx => hs x (List.mem_append_left _ hx))) ?_
    exact trodAll_stays hl hb hr.2 r0 (fun p hp => hlt p (List.mem_append_right _ hp)) (fun p hp => hs p (List.mem_append_right _ hp))
theorem trodAll_len {P : Program} {H : Type} {enc : TypeId × Value → H} {W : World} {base : Nat} {sp : Nat → Bool} {hd : Bool} : ∀ {Ts : List TypeId} {vs : List Value} {ds : List (DataW H)} {ps : List MemPlace},
    DataW.TrodAll enc P W base sp hd Ts vs ds ps → vs.length = Ts.length ∧ ds.length = Ts.length
  | [],vs,ds,ps,ht => by
    obtain ⟨rfl,rfl,_⟩ := trodAll_nil ht
    exact ⟨rfl,rfl⟩
  | T :: Ts,vs,ds,ps,ht => by
    obtain ⟨v0,vs0,d0,ds0,p0,q0,rfl,rfl,rfl,h0,r0⟩ := trodAll_cons ht
    obtain ⟨h1,h2⟩ := trodAll_len r0
    exact ⟨by simp [h1],by simp [h2]⟩
theorem law_contract {P : Program} {fn : Func} {k : FuncId} {B : TypeId} {s : ChangeSpec} (hl : laidOutB P = true) (hts : fn.params.toList.all (fun t => P.readableRec t && decide (t < P.types.size)) = true)
    (hres : fn.resultTypes = #[B]) (hB : P.underlying B = some .bool) (hvars : s.vars = []) {σ : Type} {avs : σ → List AV} {wfs : σ → Prop} (ho : OpensL P fn.params.toList avs wfs)
    (hfn : ∀ (H : Type) (ds : List (DataW H)),ds.length = fn.params.toList.length → s.fn H ds = { results := [.lit (.bool true)],args := ds })
    (H : Type) (enc : TypeId × Value → H) (W : World) (base : Nat) (args : Array Value) (ds gs : List (DataW H)) (before : List MemPlace)
    (hS : ∀ x,wfs x → Spec P k [] (avs x) [] (.sc (.bool true)) [])
    (hval : ∀ (j : Nat) t v,fn.params[j]? = some t → args[j]? = some v → Value.okWide P W .any base t v)
    (hW : DataW.Whole enc P fn.params.toList s.vars false W args.toList ds gs before) :
    Calls P k args W fun e W' => ∃ v,e = .returned v ∧ s.post enc P fn false true false false W args v W' := by
  have hW' := hW
  obtain ⟨p,q,hA0,hV,rfl,hfz,hnd⟩ := hW
  have hA : DataW.TrodAll enc P W 0 (fun _ => true) true fn.params.toList args.toList ds p := hA0
  rw [hvars] at hV
  obtain ⟨rfl,rfl⟩ := trodVars_none hV
  obtain ⟨x,hx,hvr⟩ := ho.open (base := base) (fun j t v ht hv => hval j t v (by simpa using ht) (by simpa using hv)) hA
  have key := law_calls (hS x hx) hvr
  rw [show args.toList.toArray = args from by simp] at key
  refine key.mono fun e W' he => ?_
  obtain ⟨v,he,⟨Z,ι,hv⟩,hb⟩ := he
  have hv' := sc_inv hv
  subst hv'
  have hfn' := hfn H ds (trodAll_len hA).2
  have hlt : ∀ x ∈ p,x.block < W.heap.size := fun x hx => by simpa using hW'.lt x (by simpa using hx)
  have hr : ∀ (b : Nat) (sp : Nat → Bool) (hd : Bool),DataW.TrodAll enc P W' b sp hd fn.resultTypes.toList ((Value.bool true).resultList fn.resultTypes.size) (s.fn H ds).results [] := fun b sp hd => by
    rw [hfn',hres]
    exact trodAll_cons_mk (shut_bool hB _) trodAll_mk0
  have ha : ∀ sp : Nat → Bool,(∀ x ∈ p,sp x.block = true) → DataW.TrodAll enc P W' 0 sp true fn.params.toList args.toList (s.fn H ds).args p := fun sp hsp => by
    rw [hfn']
    exact trodAll_stays hl hb hts hA hlt hsp
  have hvs : ∀ sp : Nat → Bool,DataW.TrodVars enc P W' sp s.vars (s.fn H ds).vars [] := fun sp => by
    rw [hvars,hfn']
    rfl
  refine ⟨_,he,ds,[],p ++ [],[],p,[],hW',?_,?_,?_,hb.frame _,fun _ => ?_⟩
  · rw [List.append_nil]; exact hr _ _ _
  · rw [List.append_nil]; exact ha _ (fun x hx => by simpa using hlt x hx)
  · rw [List.append_nil]; exact hvs _
  · rw [List.append_nil]
    refine ⟨ok_one hres rfl (okWide_bool_mk hB _),_,_,([] ++ p) ++ [],⟨[] ++ p,[],trodAll_append (ha _ (fun _ _ => rfl)) (hr _ _ _),hvs _,rfl,fun b off hp => ?_,fun hap => ?_⟩,fun x hx _ => ?_⟩
    · have hp' : MemPlace.cell b off ∈ p := by simpa using hp
      rw [hb.frozen (p := ⟨b,off,none⟩) (hlt _ hp')]
      exact hfz b off (by simpa using hp')
    · have := hnd hap
      simpa using this
    · simpa using hx
end Go.AB
namespace Go.AB
open Go
end Go.AB
namespace Go.AB
open Go Go.ChangeShapes Go.WideShapes Go.ChangeAt Go.RowKit
def OpC (P : Program) (T : TypeId) {α : Type} (enc : α → List AV) (wf : α → Prop) : Prop :=
  ∀ (H : Type) (e : TypeId × Value → H) (W : World) (fuel : Nat) (cs : List Value) (x : DataW H × List MemPlace),DataW.trod e P W 0 (fun _ => true) true fuel T cs = some x →
    ∃ y,wf y ∧ cs.length = (enc y).length ∧ ∀ i (hi : i < (enc y).length),∃ u,cs[i]? = some u ∧ VR W (oldZ W) noT ((enc y)[i]'hi) u
theorem one_row {W : World} {v : AV} {u : Value} (h : VR W (oldZ W) noT v u) : ∀ i (hi : i < [v].length),∃ u',[u][i]? = some u' ∧ VR W (oldZ W) noT ([v][i]'hi) u' := fun i hi => by
  have : i = 0 := by simpa using hi
  subst this
  exact ⟨u,rfl,h⟩
theorem OpC.int {P : Program} {T : TypeId} {k : IntKind} (hT : P.underlying T = some (.int k)) : OpC P T (encI k) (fun n => (Lit.int k n).wf = true) := fun H e W fuel cs x h => by
  obtain ⟨n,rfl,_,hw⟩ := DataW.trod_int hT h
  exact ⟨n,hw,rfl,one_row (.sc _ _ _)⟩
theorem OpC.bool {P : Program} {T : TypeId} (hT : P.underlying T = some .bool) : OpC P T encB (fun _ => True) := fun H e W fuel cs x h => by
  obtain ⟨b,rfl,_⟩ := DataW.trod_bool hT h
  exact ⟨b,trivial,rfl,one_row (.sc _ _ _)⟩
theorem list_of {α : Type} {Q : Nat → α → Prop} : ∀ n,(∀ i,i < n → ∃ y,Q i y) → ∃ ys : List α,ys.length = n ∧ ∀ i y,ys[i]? = some y → Q i y
  | 0,_ => ⟨[],rfl,fun i y h => by simp at h⟩
  | n + 1,h => by
    obtain ⟨ys,hl,hq⟩ := list_of n fun i hi => h i (by omega)
    obtain ⟨y,hy⟩ := h n (by omega)
    refine ⟨ys ++ [y],by simp [hl],fun i z hz => ?_⟩
    rcases Nat.lt_or_ge i ys.length with hi | hi
    · rw [List.getElem?_append_left hi] at hz; exact hq i z hz
    · rw [List.getElem?_append_right hi] at hz
      have hi' : i - ys.length < 1 := by
        have := (List.getElem?_eq_some_iff.1 hz).1
        simpa using this
      have e : i = n := by omega
      subst e
      rw [hl,Nat.sub_self] at hz
      simp at hz
      subst hz
      exact hy
theorem flat_cells {α : Type} {enc : α → List AV} {sz : Nat} (henc : ∀ y,(enc y).length = sz) (hpos : 0 < sz) {W : World} {Z : Zone} {ι : Tags} {f : Nat → Value} {ys : List α}
    (h : ∀ q y,ys[q]? = some y → ∀ r (hr : r < (enc y).length),VR W Z ι ((enc y)[r]'hr) (f (q * sz + r))) : ∀ i (hi : i < (ys.flatMap enc).length),VR W Z ι ((ys.flatMap enc)[i]'hi) (f i) := fun i hi => by
  have hl := flatMap_length henc ys
  have hi' : i < ys.length * sz := by omega
  have hq : i / sz < ys.length := Nat.div_lt_of_lt_mul (by rw [Nat.mul_comm]; exact hi')
  have hr : i % sz < sz := Nat.mod_lt _ hpos
  have hy : ys[i / sz]? = some ys[i / sz] := List.getElem?_eq_getElem hq
  have he := flatMap_at henc ys (i / sz) hy (i % sz) hr
  have hsplit : i / sz * sz + i % sz = i := by rw [Nat.mul_comm]; exact Nat.div_add_mod i sz
  rw [hsplit,List.getElem?_eq_getElem hi,List.getElem?_eq_getElem (by rw [henc]; exact hr)] at he
  rw [Option.some.inj he]
  have := h _ _ hy (i % sz) (by rw [henc]; exact hr)
  rwa [hsplit] at this
theorem OpC.slice {P : Program} {T E : TypeId} {α : Type} {enc : α → List AV} {wf : α → Prop} {sz : Nat} (hT : P.underlying T = some (.slice E)) (hc : P.cellsOf E = sz) (hpos : 0 < sz)
    (henc : ∀ y,(enc y).length = sz) (hE : OpC P E enc wf) : OpC P T (fun ys : List α => [.rd false ys.length (ys.flatMap enc)]) (fun ys => ys.length ≤ maxLen ∧ ∀ y,y ∈ ys → wf y) := fun H e W fuel cs x h => by
  rcases DataW.trod_slice hT h with ⟨rfl,_⟩ | ⟨a,len,cap,elems,rest,n,_,rfl,_,_,hl,hm,hlen,hel,hsp,_⟩
  · exact ⟨[],⟨Nat.zero_le _,fun y hy => by cases hy⟩,rfl,one_row (.rdnil _ _ _ _)⟩
  · rcases Nat.eq_zero_or_pos cap with h0 | h0
    · subst h0
      have : len = 0 := by omega
      subst this
      exact ⟨[],⟨Nat.zero_le _,fun y hy => by cases hy⟩,rfl,one_row (.rdnil _ _ _ _)⟩
    · have cell : ∀ q,q < cap → ∀ r,r < sz → ∃ u,W.cell? ((a.add (q * sz)).add r) = some u := by
        intro q hq r hr
        have hb : ∃ c,(W.cells? 0 (a.add (q * P.cellsOf E)) (P.cellsOf E)) = some c := by
          by_cases hi : q < len
          · have h1 := hel q hi
            rw [List.getElem?_eq_getElem (by omega)] at h1
            obtain ⟨c,hcc,_⟩ := Option.bind_eq_some_iff.1 h1
            exact ⟨c,hcc⟩
          · obtain ⟨hrl,hr'⟩ := hsp rfl
            have h1 := hr' (q - len) (by omega)
            rw [List.getElem?_eq_getElem (by omega),show len + (q - len) = q by omega] at h1
            obtain ⟨c,hcc,_⟩ := Option.bind_eq_some_iff.1 h1
            exact ⟨c,hcc⟩
        obtain ⟨c,hcc⟩ := hb
        rw [hc] at hcc
        obtain ⟨_,h2,h3⟩ := World.cells?_some hcc
        have h4 := h3 r hr
        rw [List.getElem?_eq_getElem (by omega)] at h4
        exact ⟨_,h4⟩
      have hspot : a.spot = none := by
        obtain ⟨u,hu⟩ := cell 0 h0 0 hpos
        rw [show (a.add (0 * sz)).add 0 = a by simp [Addr.add]] at hu
        unfold World.cell? at hu
        cases hs : a.spot with
        | none => rfl
        | some s =>
          rw [hs] at hu
          split at hu <;> simp at hu
      obtain ⟨b,off,sp⟩ := a
      simp only at hspot
      subst hspot
      have hq : ∀ q,q < len → ∃ y,wf y ∧ ∀ r (hr : r < (enc y).length),∃ u,W.cell? ⟨b,off + (q * sz + r),none⟩ = some u ∧ VR W (oldZ W) noT ((enc y)[r]'hr) u := by
        intro q hq
        have h1 := hel q hq
        rw [List.getElem?_eq_getElem (by omega)] at h1
        obtain ⟨c,hcc,ht⟩ := Option.bind_eq_some_iff.1 h1
        obtain ⟨y,hy,hyl,hv⟩ := hE H e W n c _ ht
        refine ⟨y,hy,fun r hr => ?_⟩
        obtain ⟨u,hu,hvr⟩ := hv r hr
        rw [hc] at hcc
        have := (World.cells?_some hcc).2.2 r (by rw [henc] at hr; exact hr)
        refine ⟨u,?_,hvr⟩
        rw [Addr.add_plain,Addr.add_plain] at this
        rw [← Nat.add_assoc,this,hu]
      obtain ⟨ys,hyl,hys⟩ := list_of len hq
      have hcl := flatMap_length henc ys
      refine ⟨ys,⟨by rw [hyl]; omega,fun y hy => ?_⟩,rfl,one_row ?_⟩
      · obtain ⟨i,hi⟩ := List.getElem?_of_mem hy
        exact (hys i y hi).1
      · rw [hyl]
        have hcell : ∀ i,i < (ys.flatMap enc).length → W.cell? ⟨b,off + i,none⟩ = some ((W.cell? ⟨b,off + i,none⟩).getD undef) := by
          intro i hi
          have hi' : i < ys.length * sz := by omega
          have hq' : i / sz < len := by rw [← hyl]; exact Nat.div_lt_of_lt_mul (by rw [Nat.mul_comm]; exact hi')
          obtain ⟨u,hu⟩ := cell (i / sz) (by omega) (i % sz) (Nat.mod_lt _ hpos)
          rw [Addr.add_plain,Addr.add_plain,Nat.add_assoc,show i / sz * sz + i % sz = i by rw [Nat.mul_comm]; exact Nat.div_add_mod i sz] at hu
          rw [hu]
          rfl
        refine .rd _ _ false len _ b off cap (fun i => (W.cell? ⟨b,off + i,none⟩).getD undef) (fun hne => ?_) hl hm hcell ?_
        · have : 0 < (ys.flatMap enc).length := by
            rcases Nat.eq_zero_or_pos (ys.flatMap enc).length with h1 | h1
            · exact absurd (List.length_eq_zero_iff.1 h1) hne
            · exact h1
          exact cell_lt (hcell 0 this)
        · refine flat_cells henc hpos fun q y hy r hr => ?_
          obtain ⟨u,hu,hv⟩ := (hys q y hy).2 r hr
          rw [hu]
          exact hv
inductive OpF (P : Program) : List TypeId → {σ : Type} → (σ → List AV) → (σ → Prop) → Prop
  | nil : OpF P [] (σ := Unit) (fun _ => []) (fun _ => True)
  | cons {T : TypeId} {Ts : List TypeId} {α σ : Type} {enc : α → List AV} {wf : α → Prop} {avs : σ → List AV} {wfs : σ → Prop} (h : OpC P T enc wf) (t : OpF P Ts avs wfs) :
      OpF P (T :: Ts) (σ := α × σ) (fun x => enc x.1 ++ avs x.2) (fun x => wf x.1 ∧ wfs x.2)
def consec (P : Program) : Nat → List Field → Option Nat
  | k,[] => some k
  | k,f :: fs => if f.offset = k then consec P (k + P.cellsOf f.type) fs else none
theorem consec_le {P : Program} : ∀ {fs : List Field} {k n : Nat},consec P k fs = some n → k ≤ n
  | [],k,n,h => by cases h; exact Nat.le_refl _
  | f :: fs,k,n,h => by
    unfold consec at h
    split at h
    · have := consec_le h; omega
    · cases h
theorem OpF.open {P : Program} {Ts : List TypeId} {σ : Type} {avs : σ → List AV} {wfs : σ → Prop} (h : OpF P Ts avs wfs) {H : Type} {e : TypeId × Value → H} {W : World} {m : Nat} {cs : List Value} :
    ∀ {fs : List Field} {k n : Nat},fs.map (·.type) = Ts → consec P k fs = some n → cs.length = n →
      (∀ f,f ∈ fs → ∃ x,DataW.trod e P W 0 (fun _ => true) true m f.type ((cs.drop f.offset).take (P.cellsOf f.type)) = some x) →
      ∃ x,wfs x ∧ k + (avs x).length = n ∧ ∀ i (hi : i < (avs x).length),∃ u,cs[k + i]? = some u ∧ VR W (oldZ W) noT ((avs x)[i]'hi) u := by
  induction h with
  | nil =>
    intro fs k n hf hk hl _
    have : fs = [] := by simpa using hf
    subst this
    cases hk
    exact ⟨(),trivial,rfl,fun i hi => absurd hi (by simp)⟩
  | @cons T Ts α σ enc wf avs wfs h t ih =>
    intro fs k n hf hk hl hall
    match fs,hf with
    | f :: fs,hf0 =>
      simp only [List.map_cons,List.cons.injEq] at hf0
      obtain ⟨rfl,hf1⟩ := hf0
      unfold consec at hk
      split at hk
      · rename_i hoff
        have hle := consec_le hk
        obtain ⟨x0,hx0⟩ := hall f (by simp)
        obtain ⟨y,hy,hyl,hv⟩ := h H e W m _ _ hx0
        obtain ⟨x,hx,hxl,hvs⟩ := ih hf1 hk hl fun g hg => hall g (by simp [hg])
        have hn : (enc y).length = P.cellsOf f.type := by
          rw [← hyl,List.length_take,List.length_drop]
          omega
        refine ⟨(y,x),⟨hy,hx⟩,by simp only [List.length_append]; omega,fun i hi => ?_⟩
        rcases Nat.lt_or_ge i (enc y).length with hlt | hge
        · obtain ⟨u,hu,hvr⟩ := hv i hlt
          refine ⟨u,?_,by rw [List.getElem_append_left hlt]; exact hvr⟩
          rw [List.getElem?_take_of_lt (by omega),List.getElem?_drop,hoff] at hu
          exact hu
        · obtain ⟨u,hu,hvr⟩ := hvs (i - (enc y).length) (by simp only [List.length_append] at hi; omega)
          refine ⟨u,?_,by rw [List.getElem_append_right hge]; exact hvr⟩
          rw [← hn,show k + (enc y).length + (i - (enc y).length) = k + i by omega] at hu
          exact hu
      · cases hk
theorem OpC.struct {P : Program} {T : TypeId} {fs : Array Field} {Ts : List TypeId} {σ R : Type} {avs : σ → List AV} {wfs : σ → Prop} {enc : R → List AV} {wf : R → Prop} (hT : P.underlying T = some (.struct fs))
    (hfs : fs.toList.map (·.type) = Ts) (hk : consec P 0 fs.toList = some (P.cellsOf T)) (h : OpF P Ts avs wfs) (mk : σ → R) (he : ∀ x,enc (mk x) = avs x) (hw : ∀ x,wfs x → wf (mk x)) : OpC P T enc wf :=
  fun H e W fuel cs x hx => by
    obtain ⟨xs,n,rfl,_,hl,hxl,hall⟩ := DataW.trod_struct hT hx
    obtain ⟨y,hy,hyl,hv⟩ := h.open (cs := cs) hfs hk hl fun f hf => by
      obtain ⟨i,hi⟩ := List.getElem?_of_mem hf
      have hi' : fs[i]? = some f := by simpa using hi
      have h1 := hall i f hi'
      have : i < xs.length := by
        rw [hxl]
        exact (Array.getElem?_eq_some_iff.1 hi').1
      rw [List.getElem?_eq_getElem this] at h1
      exact ⟨_,h1⟩
    refine ⟨mk y,hw y hy,by rw [he]; omega,fun i hi => ?_⟩
    have hi' : i < (avs y).length := by rw [he] at hi; exact hi
    obtain ⟨u,hu,hvr⟩ := hv i hi'
    refine ⟨u,by simpa using hu,?_⟩
    have : (enc (mk y))[i]'hi = (avs y)[i]'hi' := by
      have h1 : (enc (mk y))[i]? = (avs y)[i]? := by rw [he]
      rw [List.getElem?_eq_getElem hi,List.getElem?_eq_getElem hi'] at h1
      exact Option.some.inj h1
    rw [this]
    exact hvr
theorem OpC.opens {P : Program} {T : TypeId} {α : Type} {av : α → AV} {wf : α → Prop} (hT : ∃ D,P.underlying T = some D ∧ match D with | .int _ => True | .bool => True | .string => True | .slice _ => True | _ => False)
    (h : OpC P T (fun y => [av y]) wf) : Opens P T av wf := fun H e W base v d ps hval hd => by
  obtain ⟨fuel,hf⟩ := hd
  obtain ⟨y,hy,hl,hv⟩ := h H e W fuel _ _ hf
  obtain ⟨u,hu,hvr⟩ := hv 0 (by simp)
  refine ⟨y,hy,?_⟩
  obtain ⟨D,hD,hm⟩ := hT
  have hcells : v.cells.toList = [v] := by
    cases v with
    | agg cs => simp only [Value.okWide,hD] at hval; cases D <;> simp_all [Cell.okWide,Cell.ok]
    | tuple vs => simp only [Value.okWide,hD] at hval; cases D <;> simp_all [Cell.okWide,Cell.ok]
    | _ => rfl
  rw [hcells] at hu
  cases hu
  exact hvr
end Go.AB
namespace Go.AB
open Go Go.RowKit
end Go.AB
namespace Go.AB
open Go
def sgT (l : List (Nat × Nat)) (t : Nat) : Nat := match look t l with | some x => x | none => t
inductive SzL (P : Program) : List TypeId → List Nat → Prop
  | nil : SzL P [] []
  | cons {T : TypeId} {n : Nat} {Ts : List TypeId} {ns : List Nat} (h : szOf P T n) (t : SzL P Ts ns) : SzL P (T :: Ts) (n :: ns)
def offsOf (P : Program) (T : TypeId) (offs : List (Nat × Nat)) : Prop :=
  ∃ fs : Array Field,P.underlying T = some (.struct fs) ∧ fs.toList.map (·.offset) = offs.map (·.1) ∧ SzL P (fs.toList.map (·.type)) (offs.map (·.2))
theorem offsOf.run {P : Program} : ∀ {l : List Field} {offs : List (Nat × Nat)},l.map (·.offset) = offs.map (·.1) → SzL P (l.map (·.type)) (offs.map (·.2)) → ∀ w,
    (l.mapM fun f => Functor.map (Prod.mk f.offset) (sizeOf f.type) : Sem (List (Nat × Nat))).run P w = .ok offs w
  | [],offs,h,_,w => by
    have : offs = [] := by simpa using h.symm
    subst this
    simp
  | f :: l,offs,h,hs,w => by
    match offs,h,hs with
    | (o,n) :: offs,h,hs =>
      simp only [List.map_cons,List.cons.injEq] at h
      cases hs with
      | cons h1 t =>
        rw [List.mapM_cons]
        have hz : (sizeOf f.type).run P w = .ok n w := h1.run w
        simp [hz,offsOf.run h.2 t,h.1]
section
variable {C : Ctx} {s : St} {d : Nat} {ty : TypeId} {p : String} {e : Array Edge} {g : Option (Nat × Bool)}
theorem AStep.buildO {T : TypeId} {parts : Array (Nat × Operand)} {vs : List (Nat × AV)} {z : List Value} {offs : List (Nat × Nat)} {out : List AV} (hd : d < C.N) (hev : EvL C s parts.toList vs) (hz : zeroT C.P T z)
    (ho : offsOf C.P T offs) (hout : fillA (fun i => offs[i]?) (z.map .sc) vs = some out) : AStep C ⟨some d,.build T parts,ty,p,e,g⟩ s (s.put d (.agg out)) := by
  obtain ⟨fs,hT,h1,h2⟩ := ho
  refine AStep.build hd hev hT hz (fun w => ?_) hout
  have := offsOf.run h1 h2 w
  rw [Array.mapM_eq_mapM_toList]
  simp [this]
end
theorem one_lit {vs : List AV} (h : vs.all AV.one = true) : ∀ v,v ∈ vs → v.one = true := List.all_eq_true.1 h
end Go.AB
namespace Go.AB
open Go
theorem Rel.weakB {C : Ctx} {s : St} {ι : Tags} {a : Act} {w : World} (r : Rel C s ι a w) {t : Nat} {k : Blk} {cells : List AV} (hk : look t s.heap = some k) (hl : cells.length ≤ k.cells.length)
    (h : ∀ i (hi : i < cells.length),cells[i] = .any ∨ k.cells[i]? = some cells[i]) : Rel C ⟨s.env,updH t { k with cells := cells } s.heap⟩ ι a w := by
  have hhas : ∀ t',has t' (updH t { k with cells := cells } s.heap) ↔ has t' s.heap := fun t' => has_updH ⟨_,hk⟩
  have hZ : ∀ β b,zone C s.heap ι w β b → zone C (updH t { k with cells := cells } s.heap) ι w β b := fun β b h => ⟨h.1,fun t ht => h.2.1 t ((hhas t).1 ht),h.2.2⟩
  refine ⟨r.size,r.dfr,fun d v hl => ?_,⟨fun t' k' hl' => ?_,fun t t' b h1 h2 => r.core.inj t t' b ((hhas t).1 h1) ((hhas t').1 h2),fun t b h => r.core.own t b ((hhas t).1 h),r.core.tr⟩,r.stab⟩
  · exact (r.env d v hl).mono (fun _ _ h => h) _ _ hZ (fun _ _ _ _ _ h => h) (fun _ _ _ h => h)
  · by_cases e : t' = t
    · subst e
      rw [look_updH_self _ _ ⟨_,hk⟩] at hl'
      cases hl'
      have h0 := r.core.blk t' k hk
      unfold BlkR at h0 ⊢
      cases hx : ι t' with
      | none =>
        simp only [hx] at h0 ⊢
        refine ⟨?_,h0.2⟩
        rw [h0.1] at hl
        exact List.eq_nil_of_length_eq_zero (by simpa using hl)
      | some b =>
        simp only [hx] at h0 ⊢
        obtain ⟨cur,q1,q2,q3⟩ := h0
        refine ⟨cur,q1,Nat.le_trans hl q2,fun i hi => ?_⟩
        obtain ⟨u,hu,hv⟩ := q3 i (by omega)
        refine ⟨u,hu,?_⟩
        rcases h i hi with h1 | h1
        · rw [h1]; exact .any _ _ _
        · rw [List.getElem?_eq_getElem (by omega)] at h1
          rw [← Option.some.inj h1]
          refine hv.mono (fun _ _ h => h) _ _ ?_ (fun _ _ _ _ _ h => h) (fun _ _ _ h => h)
          obtain ⟨kt,kl,kc⟩ := k
          cases kl with
          | true => exact fun _ b hb => hZ false b hb
          | false => exact hZ
    · rw [look_updH_ne e] at hl'
      have h0 := r.core.blk t' k' hl'
      unfold BlkR at h0 ⊢
      cases hx : ι t' with
      | none => simp only [hx] at h0 ⊢; exact h0
      | some b =>
        simp only [hx] at h0 ⊢
        obtain ⟨cur,q1,q2,q3⟩ := h0
        refine ⟨cur,q1,q2,fun i hi => ?_⟩
        obtain ⟨u,hu,hv⟩ := q3 i hi
        refine ⟨u,hu,hv.mono (fun _ _ h => h) _ _ ?_ (fun _ _ _ _ _ h => h) (fun _ _ _ h => h)⟩
        cases k'.lst with
        | true => exact fun _ b hb => hZ _ _ hb
        | false => exact hZ
theorem VC.weakB {C : Ctx} {s : St} {t : Nat} {k : Blk} {cells : List AV} (hk : look t s.heap = some k) (hl : cells.length ≤ k.cells.length)
    (h : ∀ i (hi : i < cells.length),cells[i] = .any ∨ k.cells[i]? = some cells[i]) : VC C s ⟨s.env,updH t { k with cells := cells } s.heap⟩ := fun ι a w r => ⟨ι,r.weakB hk hl h⟩
def AStepE (C : Ctx) (o : Oper) (s : St) (S : Nat → St) : Prop :=
  ∀ ι a w (K : Act → World → Prop) (Q : Exit → Act → World → Prop),Rel C s ι a w → (∀ q ι' a' w',Rel C (S q) ι' a' w' → K a' w') → o.wpIn (Fc C.r) 0 C.P a w K Q
def ARunE (C : Ctx) (A : Array Oper) (l : List Oper) (s : St) (S : Nat → St) : Prop :=
  ∀ ι a w (Q : Exit → Act → World → Prop),Rel C s ι a w → (∀ q ι' a' w',Rel C (S q) ι' a' w' → Q .normal a' w') → wpListIn (Fc C.r) 0 C.P A Q l a w
theorem ARunE.nilV {C : Ctx} {A : Array Oper} {S : Nat → St} {s : St} (q : Nat) (v : VC C s (S q)) : ARunE C A [] s S := fun ι a w _ r h => let ⟨ι',r'⟩ := v ι a w r; h q ι' a w r'
theorem ARunE.cons {C : Ctx} {A : Array Oper} {d : Option Nat} {op : Op} {ty : TypeId} {p : String} {e : Array Edge} {l : List Oper} {s s1 : St} {S : Nat → St}
    (h : AStep C ⟨d,op,ty,p,e,none⟩ s s1) (t : ARunE C A l s1 S) : ARunE C A (⟨d,op,ty,p,e,none⟩ :: l) s S := fun ι a w Q r hq => by
  refine wpListIn_plain rfl fun K hK => h ι a w K Q r fun ι' a' w' r' => hK _ _ (t ι' a' w' Q r' hq)
theorem ARunE.consE {C : Ctx} {A : Array Oper} {d : Option Nat} {op : Op} {ty : TypeId} {p : String} {e : Array Edge} {l : List Oper} {s : St} {S1 S : Nat → St}
    (h : AStepE C ⟨d,op,ty,p,e,none⟩ s S1) (t : ∀ q,ARunE C A l (S1 q) S) : ARunE C A (⟨d,op,ty,p,e,none⟩ :: l) s S := fun ι a w Q r hq => by
  refine wpListIn_plain rfl fun K hK => h ι a w K Q r fun q ι' a' w' r' => hK _ _ (t q ι' a' w' Q r' hq)
theorem AWP.regionE {C : Ctx} {Q : Exit → St → Prop} {s : St} {S : Nat → St} {id : Nat} {l : List Oper} (h : ARunE C l.toArray l s S) (hq : ∀ q,Q .normal (S q)) : AWP C (.region id l.toArray false) Q s :=
  fun ι a w r => wpIn_region_lit (h ι a w _ r fun q ι' _ _ r' => ⟨S q,ι',r',hq q⟩)
theorem AStepE.run {C : Ctx} {o : Oper} {s : St} {S : Nat → St} (ho : ∀ c,o.op ≠ .defer c)
    (h : ∀ ι a w,Rel C s ι a w → ∃ q u w' ι',(execOp a.eval o).run C.P w = .ok (.value u) w' ∧ Rel C (S q) ι' (a.put o.dst u) w') : AStepE C o s S := by
  intro ι a w K Q r hk
  obtain ⟨q,u,w',ι',hr,r'⟩ := h ι a w r
  refine ⟨fun _ _ => trivial,?_⟩
  rw [semAt_plain _ _ _ ho,hr]
  exact hk _ _ _ _ r'
section
variable {C : Ctx} {s : St} {d : Nat} {ty : TypeId} {p : String} {e : Array Edge} {g : Option (Nat × Bool)}
theorem AStep.slOwn {α : Type} {enc : α → List AV} {sz gh n : Nat} {x : Operand} {lo hi : Option Operand} {T E U : TypeId} {t : Nat} {xs ys : List α} {l h : Int} (hd : d < C.N) (hx : Ev C s x (.own t sz gh n))
    (hk : look t s.heap = some ⟨U,true,List.replicate gh .any ++ xs.flatMap enc⟩) (hT : C.P.underlying T = some (.slice E)) (hE : szOf C.P E sz) (henc : ∀ y,(enc y).length = sz) (hn : n = xs.length)
    (hl : BdI C s lo 0 l) (hh : BdI C s hi xs.length h) (hy : slc xs l h = some ys) {gh' : Nat} (hg : gh' = gh + l.toNat * sz) :
    AStep C ⟨some d,.slice T x lo hi none,ty,p,e,g⟩ s ⟨(d,.own t sz gh' ys.length) :: s.env,updH t ⟨U,true,List.replicate gh' .any ++ ys.flatMap enc⟩ s.heap⟩ := by
  obtain ⟨h0,h1,h2,h3,h4⟩ := slcS hy
  subst hn hg
  have h5 := AStep.sliceOwn (ty := ty) (p := p) (e := e) (g := g) (h := h.toNat) hd hx hT hE (hl.nat (d := 0) h0) (hh.nat (by omega)) (by omega) (by omega)
  rw [h4]
  refine h5.vc ?_
  have hk' : look t (s.put d (.own t sz (gh + l.toNat * sz) (h.toNat - l.toNat))).heap = some ⟨U,true,List.replicate gh .any ++ xs.flatMap enc⟩ := hk
  have hyl : (ys.flatMap enc).length = (h.toNat - l.toNat) * sz := by rw [flatMap_length henc,h4]
  have hxl := flatMap_length henc xs
  have hmul : l.toNat * sz + (h.toNat - l.toNat) * sz = h.toNat * sz := by rw [← Nat.add_mul]; congr 1; omega
  have hle : h.toNat * sz ≤ xs.length * sz := Nat.mul_le_mul_right _ (by omega)
  refine VC.weakB hk' ?_ fun i hi => ?_
  · simp only [List.length_append,List.length_replicate,hyl,hxl]
    omega
  · by_cases hig : i < gh + l.toNat * sz
    · left
      rw [List.getElem_append_left (by simpa using hig)]
      simp
    · right
      have hi2 : i - (gh + l.toNat * sz) < (ys.flatMap enc).length := by simp only [List.length_append,List.length_replicate] at hi; omega
      rw [List.getElem_append_right (by simp; omega)]
      simp only [List.length_replicate]
      rw [List.getElem?_append_right (by simp; omega)]
      simp only [List.length_replicate]
      have e1 : ys.flatMap enc = ((xs.flatMap enc).drop (l.toNat * sz)).take ((h.toNat - l.toNat) * sz) := by
        rw [h3,flatMap_drop henc,flatMap_take henc]
      have e2 : (ys.flatMap enc)[i - (gh + l.toNat * sz)]? = (xs.flatMap enc)[i - gh]? := by
        rw [e1,List.getElem?_take,if_pos (by rw [hyl] at hi2; omega),List.getElem?_drop]
        congr 1
        omega
      rw [← e2,List.getElem?_eq_getElem hi2]
end
end Go.AB
namespace Go.AB
open Go
theorem VC.cellsW {C : Ctx} {s : St} {t : Nat} {k k' : Blk} (hk : look t s.heap = some k) (hty : k'.ty = k.ty) (hl : k'.cells.length = k.cells.length) (hnil : k.lst = true ∨ k.cells ≠ []) (hls : k.cells = [] → k'.lst = true)
    (h : ∀ i (hi : i < k.cells.length) (hi' : i < k'.cells.length) w Z ι u,(∀ b,Z false b → Z true b) → VR w (bif k.lst then fun _ => Z false else Z) (bif k.lst then fun _ => none else ι) k.cells[i] u →
      VR w (bif k'.lst then fun _ => Z false else Z) (bif k'.lst then fun _ => none else ι) k'.cells[i] u) : VC C s ⟨s.env,updH t k' s.heap⟩ := fun ι a w r => by
  have hhas : ∀ t',has t' (updH t k' s.heap) ↔ has t' s.heap := fun t' => has_updH ⟨_,hk⟩
  have hZ : ∀ β b,zone C s.heap ι w β b → zone C (updH t k' s.heap) ι w β b := fun β b h => ⟨h.1,fun t ht => h.2.1 t ((hhas t).1 ht),h.2.2⟩
  refine ⟨ι,r.size,r.dfr,fun d v hl => ?_,⟨fun t' k1 hl' => ?_,fun t t' b h1 h2 => r.core.inj t t' b ((hhas t).1 h1) ((hhas t').1 h2),fun t b h => r.core.own t b ((hhas t).1 h),r.core.tr⟩,r.stab⟩
  · exact (r.env d v hl).mono (fun _ _ h => h) _ _ hZ (fun _ _ _ _ _ h => h) (fun _ _ _ h => h)
  · by_cases e : t' = t
    · subst e
      rw [look_updH_self _ _ ⟨_,hk⟩] at hl'
      cases hl'
      have h0 := r.core.blk t' k hk
      unfold BlkR at h0 ⊢
      cases hx : ι t' with
      | none =>
        simp only [hx] at h0 ⊢
        refine ⟨?_,hls h0.1⟩
        rw [h0.1] at hl
        exact List.eq_nil_of_length_eq_zero (by simpa using hl)
      | some b =>
        simp only [hx] at h0 ⊢
        obtain ⟨cur,q1,q2,q3⟩ := h0
        refine ⟨cur,by rw [hty]; exact q1,by omega,fun i hi => ?_⟩
        obtain ⟨u,hu,hv⟩ := q3 i (by omega)
        refine ⟨u,hu,h i (by omega) hi w (zone C (updH t' k' s.heap) ι w) ι u (fun b hb => ⟨hb.1,hb.2.1,?_⟩) ?_⟩
        · rcases hb.2.2 with ⟨h,_⟩ | h | h | h
          · cases h
          · exact .inr (.inl h)
          · exact .inr (.inr (.inl h))
          · exact .inr (.inr (.inr h))
        · refine hv.mono (fun _ _ h => h) _ _ ?_ (fun _ _ _ _ _ h => h) (fun _ _ _ h => h)
          obtain ⟨kt,kl,kc⟩ := k
          cases kl with
          | true => exact fun _ b hb => hZ false b hb
          | false => exact hZ
    · rw [look_updH_ne e] at hl'
      have h0 := r.core.blk t' k1 hl'
      unfold BlkR at h0 ⊢
      cases hx : ι t' with
      | none => simp only [hx] at h0 ⊢; exact h0
      | some b =>
        simp only [hx] at h0 ⊢
        obtain ⟨cur,q1,q2,q3⟩ := h0
        refine ⟨cur,q1,q2,fun i hi => ?_⟩
        obtain ⟨u,hu,hv⟩ := q3 i hi
        refine ⟨u,hu,hv.mono (fun _ _ h => h) _ _ ?_ (fun _ _ _ _ _ h => h) (fun _ _ _ h => h)⟩
        cases k1.lst with
        | true => exact fun _ b hb => hZ _ _ hb
        | false => exact hZ
section
variable {C : Ctx} {s : St} {d : Nat} {ty : TypeId} {p : String} {e : Array Edge} {g : Option (Nat × Bool)}
end
section
variable {C : Ctx} {s : St} {d : Nat} {ty : TypeId} {p : String} {e : Array Edge} {g : Option (Nat × Bool)}
end
end Go.AB
namespace Go.AB
open Go
section
variable {C : Ctx} {s : St} {d : Nat} {ty : TypeId} {p : String} {e : Array Edge} {g : Option (Nat × Bool)}
theorem eqNil_run {P : Program} {w : World} {T E : TypeId} {x : Operand} {o : Option Addr} {n c : Nat} (hT : P.underlying T = some (.slice E)) (neg : Bool) :
    (do eqGuard (bif neg then .neq else .eql) T x (.const (.slice none 0 0)) (.slice o n c) (.slice none 0 0); binOp (bif neg then .neq else .eql) T (.slice o n c) (.slice none 0 0) : Sem Value).run P w = .ok (.bool (bif neg then !o.isNone else o.isNone)) w := by
  have key : (Op.equal T (.slice o n c) (.slice none 0 0)).run P w = .ok o.isNone w := by
    have hm : Op.equal T (.slice o n c) (.slice none 0 0) = Op.equalIn (Op.maxDepth - 1 + 1) T (.slice o n c) (.slice none 0 0) := rfl
    rw [hm]
    cases o <;> simp [Op.equalIn,run_underlying hT]
  cases neg <;> simp [eqGuard,binOp,key]
theorem AStepE.eqNil {x : Operand} {T E U : TypeId} {β : Bool} {n : Nat} {cells : List AV} (hd : d < C.N) (hx : Ev C s x (.rd β n cells)) (hT : C.P.underlying T = some (.slice E)) (neg : Bool) :
    AStepE C ⟨some d,.binOp (bif neg then .neq else .eql) T x (.const (.slice none 0 0)) U,ty,p,e,g⟩ s (fun q => s.put d (.sc (.bool (bif neg then !decide (n = 0 ∧ q = 0) else decide (n = 0 ∧ q = 0))))) :=
  .run (fun _ h => by cases h) fun ι a w r => by
    have key : ∀ o k c,a.eval x = .slice o k c → (execOp a.eval ⟨some d,.binOp (bif neg then .neq else .eql) T x (.const (.slice none 0 0)) U,ty,p,e,g⟩).run C.P w = .ok (.value (.bool (bif neg then !o.isNone else o.isNone))) w := by
      intro o k c hu
      have := eqNil_run (w := w) (x := x) (o := o) (n := k) (c := c) hT neg
      have hn : a.eval (.const (.slice none 0 0)) = .slice none 0 0 := rfl
      simp only [execOp,hu,hn]
      simp only [Sem.run_bind] at this ⊢
      rw [this]
      simp
    have h := hx ι a w r
    generalize hu : a.eval x = u at h
    cases h with
    | rdnil _ _ _ o =>
      cases o with
      | none => exact ⟨0,_,w,ι,key _ _ _ hu,by simpa using r.put hd (.sc _ _ _)⟩
      | some o => exact ⟨1,_,w,ι,key _ _ _ hu,by simpa using r.put hd (.sc _ _ _)⟩
    | rd _ _ _ _ _ b off cap vs hz hn hc hv h =>
      exact ⟨1,_,w,ι,key _ _ _ hu,by simpa using r.put hd (.sc _ _ _)⟩
end
inductive FsI (P : Program) : Nat → List Field → Prop
  | nil (i : Nat) : FsI P i []
  | cons (i : Nat) (f : Field) (l : List Field) (hn : (f.name == "_") = false) (ho : f.offset = i) (hE : P.underlying f.type = some (.int .i64)) (h : FsI P (i + 1) l) : FsI P i (f :: l)
section
variable {C : Ctx} {s : St} {d : Nat} {ty : TypeId} {p : String} {e : Array Edge} {g : Option (Nat × Bool)}
end
theorem cloneNil {α : Type} {xs r : List α} {q : Nat} (hc : decide (xs.length = 0 ∧ q = 0) = true) (h : ((apd ([] : List α) xs).bind fun z => some z) = some r) : some ([] : List α) = some r := by
  have : xs = [] := List.eq_nil_of_length_eq_zero (of_decide_eq_true hc).1
  subst this
  simp [apd] at h
  rw [← h]
end Go.AB
namespace Go.AB
open Go
structure Fam (G : Type) where
  D : Type
  P : Program
  r : Option Nat
  cx : D → Ctx
  H : G → D → Prop
  hP : ∀ d,(cx d).P = P
  hr : ∀ d,(cx d).r = r
section
variable {G : Type} {φ : Fam G} {g : G} {s s' : St} {Q : Exit → G → St → Prop} {c : Code}
end
section
variable {R : Type} {φ : Fam (Option R)} {g : Option R} {r : R} {s s' : St} {Q : Exit → Option R → St → Prop} {c : Code}
end
end Go.AB
namespace Go.AB
open Go
structure Kept (B : Nat → Prop) (w w' : World) : Prop where
  size : w.heap.size ≤ w'.heap.size
  block : ∀ k c ty n,B k → w.heap[k]? = some (.cells c ty n) → w'.heap[k]? = w.heap[k]?
  bsz : ∀ b n,bsz w b = some n → bsz w' b = some n
structure ItD where
  w0 : World
  Zs : Nat → Prop
  Zb : Nat → Prop
  T0 : Nat → Prop
  I : Nat → Prop
structure ItH {E : Type} (xs : List E) (Zs Zb : Nat → Prop) (J : List E → (Nat → Prop) → (Nat → Prop) → World → Prop) (Jx : (Nat → Prop) → (Nat → Prop) → World → Prop) (g : Option (List E)) (d : ItD) : Prop where
  past : match g with
    | some rest => ∃ pre,xs = pre ++ rest ∧ J pre d.T0 d.I d.w0
    | none => Jx d.T0 d.I d.w0
  own : ∀ b,d.T0 b → d.I b
  lt : ∀ b,d.I b → b < d.w0.heap.size
  zs : ∀ b,d.Zs b → Zs b ∨ d.I b
  zb : ∀ b,d.Zb b → Zb b ∨ Zs b ∨ d.I b
inductive EvV (C : Ctx) (s : St) : List Operand → List AV → Prop
  | nil : EvV C s [] []
  | cons {x : Operand} {v : AV} {xs : List Operand} {vs : List AV} (h : Ev C s x v) (hv : v.tags = []) (t : EvV C s xs vs) : EvV C s (x :: xs) (v :: vs)
section
variable {E : Type} {P : Program} {N : Nat} {ι0 : Tags} {xs : List E} {Zs Zb : Nat → Prop} {J : List E → (Nat → Prop) → (Nat → Prop) → World → Prop} {Jx : (Nat → Prop) → (Nat → Prop) → World → Prop}
end
section
variable {R : Type} {φ : Fam (Option R)} {A : Array Oper} {l : List Oper} {g : Option R} {s s1 s2 : St} {S : Bool → Option R × St}
end
section
variable {E : Type} {φ : Fam (Option (List E))} {Q : Exit → Option (List E) → St → Prop} {s : St}
end
end Go.AB
