import Derived.Test.YtiginjokbkemcaaBb
import Derived.WalkKit
import Derived.ProofKit
import Derived.OpenShut
import Derived.JoinedCond
import Derived.Carry
import Derived.SliceStrings
import Derived.ChangeArms
import Derived.Below
import Derived.RangeFuncLeaves
import Derived.RangeFuncRecord
import Derived.RangeFuncSeq
import Derived.RangeFuncFrom
namespace Go.AB
open Go Go.ChangeShapes Go.WideShapes Go.ChangeAt Go.RowKit
abbrev oldZ (w : World) : Zone := fun _ b => b < w.heap.size
abbrev noT : Tags := fun _ => none
theorem law_calls {P : Program} {k : FuncId} {avs : List AV} {r : AV} (hS : Spec P k [] avs [] r []) {w : World} {vs : List Value} (hv : VRs w (oldZ w) noT avs vs) :
    Calls P k vs.toArray w fun e w' => ∃ v,e = .returned v ∧ (∃ Z ι,VR w' Z ι r v) ∧ Below w.heap.size w w' := by
  have hno : ∀ t,¬ has t ([] : List (Nat × Blk)) := fun t ⟨k,hk⟩ => by cases hk
  have h := hS.2 (fun _ => True) (fun _ => False) noT w vs 0 [] none
    ⟨fun t k hk => (by cases hk),fun t t' b ht => absurd ht (hno t),fun t b ht => absurd ht (hno t),Trans.refl _ _⟩
    ⟨hv.1,fun i hi => by
      obtain ⟨u,hu,hr⟩ := hv.2 i hi
      exact ⟨u,hu,hr.mono (fun _ _ h => h) _ _ (fun β b hb => ⟨hb,fun t ht => absurd ht (hno t),.inr (.inl trivial)⟩) (fun _ _ _ _ _ h => h) (fun _ _ _ h => h)⟩⟩
  have h' : CallsIn Fence.wide 0 P k vs.toArray w _ := h
  refine (callsIn_wide.1 h').mono fun e w' ⟨v,ι',he,hc,hr,_⟩ => ⟨v,he,⟨_,_,hr⟩,?_⟩
  have tr := hc.tr
  exact ⟨tr.os,tr.tape,tr.output,tr.size,fun k hk => tr.block k hk fun ⟨t,ht,_⟩ => hno t ht⟩
def Opens (P : Program) (T : TypeId) {α : Type} (av : α → AV) (wf : α → Prop) : Prop :=
  ∀ (H : Type) (enc : TypeId × Value → H) (W : World) (base : Nat) (v : Value) (d : DataW H) (ps : List MemPlace),Value.okWide P W .any base T v → DataW.Trod enc P W 0 (fun _ => true) true T v d ps →
    ∃ y,wf y ∧ VR W (oldZ W) noT (av y) v
theorem Opens.int {P : Program} {T : TypeId} {k : IntKind} (hT : P.underlying T = some (.int k)) : Opens P T (fun n : Int => .sc (.int k n)) (fun n => (Lit.int k n).wf = true) := fun H enc W base v d ps hval hd => by
  obtain ⟨a,rfl,_,_,hw⟩ := open_int hT hval hd
  exact ⟨a,hw,.sc _ _ _⟩
theorem spot_of {P : Program} {W : World} {base : Nat} {T E : TypeId} {a : Addr} {len cap : Nat} (hT : P.underlying T = some (.slice E)) (h : Value.okWide P W .any base T (.slice (some a) len cap)) : a.spot = none := by
  simp only [Value.okWide,hT,Cell.okWide,Cell.ok] at h
  exact h.2.2.2.1
theorem cell_lt {w : World} {a : Addr} {v : Value} (h : w.cell? a = some v) : a.block < w.heap.size := by
  unfold World.cell? at h
  cases hb : w.heap[a.block]? with
  | none => rw [hb] at h; cases h
  | some o => exact (Array.getElem?_eq_some_iff.1 hb).1
theorem Opens.bytes {P : Program} {T E : TypeId} (hT : P.underlying T = some (.slice E)) (hE : P.underlying E = some (.int .u8)) (hc : P.cellsOf E = 1) :
    Opens P T (fun y : List UInt8 => .rd false y.length (y.flatMap enc8)) (fun y => y.length ≤ maxLen) := fun H enc W base v d ps hval hd => by
  obtain ⟨a0,len,cap,rfl⟩ := okWide_slice hT hval
  obtain ⟨fuel,hf⟩ := hd
  rcases open_ints hT hE hc hf with ⟨h,_⟩ | ⟨a,len',cap',zs,h,_,hlc,hcm,hzl,_,hcell,hw⟩
  · simp [Value.cells] at h
    obtain ⟨rfl,rfl,rfl⟩ := h
    exact ⟨[],Nat.zero_le _,.rdnil _ _ _ _⟩
  · simp [Value.cells] at h
    obtain ⟨rfl,rfl,rfl⟩ := h
    simp only [if_true] at hzl
    have hsp := spot_of hT hval
    obtain ⟨b,off,sp⟩ := a
    simp only at hsp
    subst hsp
    let y : List UInt8 := (zs.take len).map fun n => UInt8.ofNat n.toNat
    have hyl : y.length = len := by simp [y]; omega
    have hwf : ∀ i,i < len → 0 ≤ zs.getD i 0 ∧ zs.getD i 0 < 256 := by
      intro i hi
      have hi' : i < zs.length := by omega
      have hm : zs.getD i 0 ∈ zs := by rw [List.getD_eq_getElem?_getD,List.getElem?_eq_getElem hi']; exact List.getElem_mem hi'
      have := hw _ hm
      generalize zs.getD i 0 = z at this ⊢
      simp [Lit.wf,IntKind.min,IntKind.max,IntKind.signed,IntKind.bits] at this
      omega
    have hcell' : ∀ i,i < len → W.cell? ⟨b,off + i,none⟩ = some (.int .u8 (zs.getD i 0)) := by
      intro i hi
      have := hcell i (by omega)
      rwa [Addr.add_plain] at this
    have hcl : (y.flatMap enc8).length = len := by rw [flatMap_length enc8_len,hyl,Nat.mul_one]
    refine ⟨y,(by show y.length ≤ maxLen; rw [hyl]; omega),?_⟩
    show VR W (oldZ W) noT (.rd false y.length (y.flatMap enc8)) _
    rw [hyl]
    refine .rd _ _ false len _ b off cap (fun i => .int .u8 (zs.getD i 0)) (fun hne => ?_) hlc hcm (fun i hi => hcell' i (hcl ▸ hi)) (fun i hi => ?_)
    · have : 0 < len := by
        rcases Nat.eq_zero_or_pos len with h0 | h0
        · exact absurd (List.length_eq_zero_iff.1 (by rw [hcl,h0])) hne
        · exact h0
      exact cell_lt (hcell' 0 this)
    · have hi' : i < len := hcl ▸ hi
      have hiy : i < y.length := by omega
      have e1 := enc8_get hiy
      rw [List.getElem?_eq_getElem hi] at e1
      have e2 : ((y[i]'hiy).toNat : Int) = zs.getD i 0 := by
        have hi2 : i < zs.length := by omega
        obtain ⟨h1,h2⟩ := hwf i hi'
        rw [List.getD_eq_getElem?_getD,List.getElem?_eq_getElem hi2] at h1 h2 ⊢
        simp only [Option.getD_some] at h1 h2 ⊢
        simp only [y,List.getElem_map,List.getElem_take]
        rw [UInt8.toNat_ofNat']
        omega
      rw [Option.some.inj e1,e2]
      exact .sc _ _ _
inductive OpensL (P : Program) : List TypeId → {σ : Type} → (σ → List AV) → (σ → Prop) → Prop
  | nil : OpensL P [] (σ := Unit) (fun _ => []) (fun _ => True)
  | cons {T : TypeId} {Ts : List TypeId} {α σ : Type} {av : α → AV} {wf : α → Prop} {avs : σ → List AV} {wfs : σ → Prop} (h : Opens P T av wf) (t : OpensL P Ts avs wfs) :
      OpensL P (T :: Ts) (σ := α × σ) (fun x => av x.1 :: avs x.2) (fun x => wf x.1 ∧ wfs x.2)
theorem OpensL.open {P : Program} {Ts : List TypeId} {σ : Type} {avs : σ → List AV} {wfs : σ → Prop} (h : OpensL P Ts avs wfs) {H : Type} {enc : TypeId × Value → H} {W : World} {base : Nat} :
    ∀ {vs : List Value} {ds : List (DataW H)} {ps : List MemPlace},(∀ (j : Nat) t v,Ts[j]? = some t → vs[j]? = some v → Value.okWide P W .any base t v) → DataW.TrodAll enc P W 0 (fun _ => true) true Ts vs ds ps →
      ∃ x,wfs x ∧ VRs W (oldZ W) noT (avs x) vs := by
  induction h with
  | nil =>
    intro vs ds ps _ ht
    obtain ⟨rfl,_,_⟩ := trodAll_nil ht
    exact ⟨(),trivial,rfl,fun i hi => absurd hi (by simp)⟩
  | cons h t ih =>
    intro vs ds ps hval ht
    obtain ⟨v0,vs0,d0,ds0,p0,q0,rfl,rfl,rfl,h0,r0⟩ := trodAll_cons ht
    obtain ⟨y,hy,hv⟩ := h H enc W base v0 d0 p0 (hval 0 _ v0 rfl rfl) h0
    obtain ⟨x,hx,hl,hvs⟩ := ih (fun j t v ht hv => hval (j + 1) t v ht hv) r0
    refine ⟨(y,x),⟨hy,hx⟩,by simp [hl],fun i hi => ?_⟩
    cases i with
    | zero => exact ⟨v0,rfl,hv⟩
    | succ i => exact hvs i (by simpa using hi)
theorem trodAll_stays {P : Program} (hl : laidOutB P = true) {H : Type} {enc : TypeId × Value → H} {W W' : World} (hb : Below W.heap.size W W') {sp : Nat → Bool} :
    ∀ {Ts : List TypeId} {vs : List Value} {ds : List (DataW H)} {ps : List MemPlace},Ts.all (fun t => P.readableRec t && decide (t < P.types.size)) = true → DataW.TrodAll enc P W 0 (fun _ => true) true Ts vs ds ps →
      (∀ p ∈ ps,p.block < W.heap.size) → (∀ p ∈ ps,sp p.block = true) → DataW.TrodAll enc P W' 0 sp true Ts vs ds ps
  | [],vs,ds,ps,_,ht,_,_ => by
    obtain ⟨rfl,rfl,rfl⟩ := trodAll_nil ht
    exact trodAll_mk0
  | T :: Ts,vs,ds,ps,hr,ht,hlt,hs => by
    obtain ⟨v0,vs0,d0,ds0,p0,q0,rfl,rfl,rfl,h0,r0⟩ := trodAll_cons ht
    rw [List.all_cons,Bool.and_eq_true,Bool.and_eq_true] at hr
    refine trodAll_cons_mk (WideElems.Trod_stays hl hr.1.1 (of_decide_eq_true hr.1.2) h0 (fun x hx => hb.same (hlt x (List.mem_append_left _ hx))) (fun x hx => hs x (List.mem_append_left _ hx))) ?_
    exact trodAll_stays hl hb hr.2 r0 (fun p hp => hlt p (List.mem_append_right _ hp)) (fun p hp => hs p (List.mem_append_right _ hp))
theorem trodAll_len {P : Program} {H : Type} {enc : TypeId × Value → H} {W : World} {base : Nat} {sp : Nat → Bool} {hd : Bool} : ∀ {Ts : List TypeId} {vs : List Value} {ds : List (DataW H)} {ps : List MemPlace},
    DataW.TrodAll enc P W base sp hd Ts vs ds ps → vs.length = Ts.length ∧ ds.length = Ts.length
  | [],vs,ds,ps,ht => by
    obtain ⟨rfl,rfl,_⟩ := trodAll_nil ht
    exact ⟨rfl,rfl⟩
  | T :: Ts,vs,ds,ps,ht => by
    obtain ⟨v0,vs0,d0,ds0,p0,q0,rfl,rfl,rfl,h0,r0⟩ := trodAll_cons ht
    obtain ⟨h1,h2⟩ := trodAll_len r0
    exact ⟨by simp [h1],by simp [h2]⟩
theorem law_contract {P : Program} {fn : Func} {k : FuncId} {B : TypeId} {s : ChangeSpec} (hl : laidOutB P = true) (hts : fn.params.toList.all (fun t => P.readableRec t && decide (t < P.types.size)) = true)
    (hres : fn.resultTypes = #[B]) (hB : P.underlying B = some .bool) (hvars : s.vars = []) {σ : Type} {avs : σ → List AV} {wfs : σ → Prop} (ho : OpensL P fn.params.toList avs wfs)
    (hfn : ∀ (H : Type) (ds : List (DataW H)),ds.length = fn.params.toList.length → s.fn H ds = { results := [.lit (.bool true)],args := ds })
    (H : Type) (enc : TypeId × Value → H) (W : World) (base : Nat) (args : Array Value) (ds gs : List (DataW H)) (before : List MemPlace)
    (hS : ∀ x,wfs x → Spec P k [] (avs x) [] (.sc (.bool true)) [])
    (hval : ∀ (j : Nat) t v,fn.params[j]? = some t → args[j]? = some v → Value.okWide P W .any base t v)
    (hW : DataW.Whole enc P fn.params.toList s.vars false W args.toList ds gs before) :
    Calls P k args W fun e W' => ∃ v,e = .returned v ∧ s.post enc P fn false true false false W args v W' := by
  have hW' := hW
  obtain ⟨p,q,hA0,hV,rfl,hfz,hnd⟩ := hW
  have hA : DataW.TrodAll enc P W 0 (fun _ => true) true fn.params.toList args.toList ds p := hA0
  rw [hvars] at hV
  obtain ⟨rfl,rfl⟩ := trodVars_none hV
  obtain ⟨x,hx,hvr⟩ := ho.open (base := base) (fun j t v ht hv => hval j t v (by simpa using ht) (by simpa using hv)) hA
  have key := law_calls (hS x hx) hvr
  rw [show args.toList.toArray = args from by simp] at key
  refine key.mono fun e W' he => ?_
  obtain ⟨v,he,⟨Z,ι,hv⟩,hb⟩ := he
  have hv' := sc_inv hv
  subst hv'
  have hfn' := hfn H ds (trodAll_len hA).2
  have hlt : ∀ x ∈ p,x.block < W.heap.size := fun x hx => by simpa using hW'.lt x (by simpa using hx)
  have hr : ∀ (b : Nat) (sp : Nat → Bool) (hd : Bool),DataW.TrodAll enc P W' b sp hd fn.resultTypes.toList ((Value.bool true).resultList fn.resultTypes.size) (s.fn H ds).results [] := fun b sp hd => by
    rw [hfn',hres]
    exact trodAll_cons_mk (shut_bool hB _) trodAll_mk0
  have ha : ∀ sp : Nat → Bool,(∀ x ∈ p,sp x.block = true) → DataW.TrodAll enc P W' 0 sp true fn.params.toList args.toList (s.fn H ds).args p := fun sp hsp => by
    rw [hfn']
    exact trodAll_stays hl hb hts hA hlt hsp
  have hvs : ∀ sp : Nat → Bool,DataW.TrodVars enc P W' sp s.vars (s.fn H ds).vars [] := fun sp => by
    rw [hvars,hfn']
    rfl
  refine ⟨_,he,ds,[],p ++ [],[],p,[],hW',?_,?_,?_,hb.frame _,fun _ => ?_⟩
  · rw [List.append_nil]; exact hr _ _ _
  · rw [List.append_nil]; exact ha _ (fun x hx => by simpa using hlt x hx)
  · rw [List.append_nil]; exact hvs _
  · rw [List.append_nil]
    refine ⟨ok_one hres rfl (okWide_bool_mk hB _),_,_,([] ++ p) ++ [],⟨[] ++ p,[],trodAll_append (ha _ (fun _ _ => rfl)) (hr _ _ _),hvs _,rfl,fun b off hp => ?_,fun hap => ?_⟩,fun x hx _ => ?_⟩
    · have hp' : MemPlace.cell b off ∈ p := by simpa using hp
      rw [hb.frozen (p := ⟨b,off,none⟩) (hlt _ hp')]
      exact hfz b off (by simpa using hp')
    · have := hnd hap
      simpa using this
    · simpa using hx
end Go.AB
namespace Go.AB
open Go
end Go.AB
namespace Go.AB
open Go Go.ChangeShapes Go.WideShapes Go.ChangeAt Go.RowKit
def OpC (P : Program) (T : TypeId) {α : Type} (enc : α → List AV) (wf : α → Prop) : Prop :=
  ∀ (H : Type) (e : TypeId × Value → H) (W : World) (fuel : Nat) (cs : List Value) (x : DataW H × List MemPlace),DataW.trod e P W 0 (fun _ => true) true fuel T cs = some x →
    ∃ y,wf y ∧ cs.length = (enc y).length ∧ ∀ i (hi : i < (enc y).length),∃ u,cs[i]? = some u ∧ VR W (oldZ W) noT ((enc y)[i]'hi) u
theorem one_row {W : World} {v : AV} {u : Value} (h : VR W (oldZ W) noT v u) : ∀ i (hi : i < [v].length),∃ u',[u][i]? = some u' ∧ VR W (oldZ W) noT ([v][i]'hi) u' := fun i hi => by
  have : i = 0 := by simpa using hi
  subst this
  exact ⟨u,rfl,h⟩
theorem OpC.int {P : Program} {T : TypeId} {k : IntKind} (hT : P.underlying T = some (.int k)) : OpC P T (encI k) (fun n => (Lit.int k n).wf = true) := fun H e W fuel cs x h => by
  obtain ⟨n,rfl,_,hw⟩ := DataW.trod_int hT h
  exact ⟨n,hw,rfl,one_row (.sc _ _ _)⟩
theorem OpC.u8 {P : Program} {T : TypeId} (hT : P.underlying T = some (.int .u8)) : OpC P T enc8 (fun _ => True) := fun H e W fuel cs x h => by
  obtain ⟨n,rfl,_,hw⟩ := DataW.trod_int hT h
  have hb : 0 ≤ n ∧ n < 256 := by
    simp [Lit.wf,IntKind.min,IntKind.max,IntKind.signed,IntKind.bits] at hw
    omega
  refine ⟨UInt8.ofNat n.toNat,trivial,rfl,one_row ?_⟩
  have e2 : ((UInt8.ofNat n.toNat).toNat : Int) = n := by rw [UInt8.toNat_ofNat']; omega
  rw [e2]
  exact .sc _ _ _
theorem OpC.bool {P : Program} {T : TypeId} (hT : P.underlying T = some .bool) : OpC P T encB (fun _ => True) := fun H e W fuel cs x h => by
  obtain ⟨b,rfl,_⟩ := DataW.trod_bool hT h
  exact ⟨b,trivial,rfl,one_row (.sc _ _ _)⟩
theorem list_of {α : Type} {Q : Nat → α → Prop} : ∀ n,(∀ i,i < n → ∃ y,Q i y) → ∃ ys : List α,ys.length = n ∧ ∀ i y,ys[i]? = some y → Q i y
  | 0,_ => ⟨[],rfl,fun i y h => by simp at h⟩
  | n + 1,h => by
    obtain ⟨ys,hl,hq⟩ := list_of n fun i hi => h i (by omega)
    obtain ⟨y,hy⟩ := h n (by omega)
    refine ⟨ys ++ [y],by simp [hl],fun i z hz => ?_⟩
    rcases Nat.lt_or_ge i ys.length with hi | hi
    · rw [List.getElem?_append_left hi] at hz; exact hq i z hz
    · rw [List.getElem?_append_right hi] at hz
      have hi' : i - ys.length < 1 := by
        have := (List.getElem?_eq_some_iff.1 hz).1
        simpa using this
      have e : i = n := by omega
      subst e
      rw [hl,Nat.sub_self] at hz
      simp at hz
      subst hz
      exact hy
theorem flat_cells {α : Type} {enc : α → List AV} {sz : Nat} (henc : ∀ y,(enc y).length = sz) (hpos : 0 < sz) {W : World} {Z : Zone} {ι : Tags} {f : Nat → Value} {ys : List α}
    (h : ∀ q y,ys[q]? = some y → ∀ r (hr : r < (enc y).length),VR W Z ι ((enc y)[r]'hr) (f (q * sz + r))) : ∀ i (hi : i < (ys.flatMap enc).length),VR W Z ι ((ys.flatMap enc)[i]'hi) (f i) := fun i hi => by
  have hl := flatMap_length henc ys
  have hi' : i < ys.length * sz := by omega
  have hq : i / sz < ys.length := Nat.div_lt_of_lt_mul (by rw [Nat.mul_comm]; exact hi')
  have hr : i % sz < sz := Nat.mod_lt _ hpos
  have hy : ys[i / sz]? = some ys[i / sz] := List.getElem?_eq_getElem hq
  have he := flatMap_at henc ys (i / sz) hy (i % sz) hr
  have hsplit : i / sz * sz + i % sz = i := by rw [Nat.mul_comm]; exact Nat.div_add_mod i sz
  rw [hsplit,List.getElem?_eq_getElem hi,List.getElem?_eq_getElem (by rw [henc]; exact hr)] at he
  rw [Option.some.inj he]
  have := h _ _ hy (i % sz) (by rw [henc]; exact hr)
  rwa [hsplit] at this
theorem OpC.slice {P : Program} {T E : TypeId} {α : Type} {enc : α → List AV} {wf : α → Prop} {sz : Nat} (hT : P.underlying T = some (.slice E)) (hc : P.cellsOf E = sz) (hpos : 0 < sz)
    (henc : ∀ y,(enc y).length = sz) (hE : OpC P E enc wf) : OpC P T (fun ys : List α => [.rd false ys.length (ys.flatMap enc)]) (fun ys => ys.length ≤ maxLen ∧ ∀ y,y ∈ ys → wf y) := fun H e W fuel cs x h => by
  rcases DataW.trod_slice hT h with ⟨rfl,_⟩ | ⟨a,len,cap,elems,rest,n,_,rfl,_,_,hl,hm,hlen,hel,hsp,_⟩
  · exact ⟨[],⟨Nat.zero_le _,fun y hy => by cases hy⟩,rfl,one_row (.rdnil _ _ _ _)⟩
  · rcases Nat.eq_zero_or_pos cap with h0 | h0
    · subst h0
      have : len = 0 := by omega
      subst this
      exact ⟨[],⟨Nat.zero_le _,fun y hy => by cases hy⟩,rfl,one_row (.rdnil _ _ _ _)⟩
    · have cell : ∀ q,q < cap → ∀ r,r < sz → ∃ u,W.cell? ((a.add (q * sz)).add r) = some u := by
        intro q hq r hr
        have hb : ∃ c,(W.cells? 0 (a.add (q * P.cellsOf E)) (P.cellsOf E)) = some c := by
          by_cases hi : q < len
          · have h1 := hel q hi
            rw [List.getElem?_eq_getElem (by omega)] at h1
            obtain ⟨c,hcc,_⟩ := Option.bind_eq_some_iff.1 h1
            exact ⟨c,hcc⟩
          · obtain ⟨hrl,hr'⟩ := hsp rfl
            have h1 := hr' (q - len) (by omega)
            rw [List.getElem?_eq_getElem (by omega),show len + (q - len) = q by omega] at h1
            obtain ⟨c,hcc,_⟩ := Option.bind_eq_some_iff.1 h1
            exact ⟨c,hcc⟩
        obtain ⟨c,hcc⟩ := hb
        rw [hc] at hcc
        obtain ⟨_,h2,h3⟩ := World.cells?_some hcc
        have h4 := h3 r hr
        rw [List.getElem?_eq_getElem (by omega)] at h4
        exact ⟨_,h4⟩
      have hspot : a.spot = none := by
        obtain ⟨u,hu⟩ := cell 0 h0 0 hpos
        rw [show (a.add (0 * sz)).add 0 = a by simp [Addr.add]] at hu
        unfold World.cell? at hu
        cases hs : a.spot with
        | none => rfl
        | some s =>
          rw [hs] at hu
          split at hu <;> simp at hu
      obtain ⟨b,off,sp⟩ := a
      simp only at hspot
      subst hspot
      have hq : ∀ q,q < len → ∃ y,wf y ∧ ∀ r (hr : r < (enc y).length),∃ u,W.cell? ⟨b,off + (q * sz + r),none⟩ = some u ∧ VR W (oldZ W) noT ((enc y)[r]'hr) u := by
        intro q hq
        have h1 := hel q hq
        rw [List.getElem?_eq_getElem (by omega)] at h1
        obtain ⟨c,hcc,ht⟩ := Option.bind_eq_some_iff.1 h1
        obtain ⟨y,hy,hyl,hv⟩ := hE H e W n c _ ht
        refine ⟨y,hy,fun r hr => ?_⟩
        obtain ⟨u,hu,hvr⟩ := hv r hr
        rw [hc] at hcc
        have := (World.cells?_some hcc).2.2 r (by rw [henc] at hr; exact hr)
        refine ⟨u,?_,hvr⟩
        rw [Addr.add_plain,Addr.add_plain] at this
        rw [← Nat.add_assoc,this,hu]
      obtain ⟨ys,hyl,hys⟩ := list_of len hq
      have hcl := flatMap_length henc ys
      refine ⟨ys,⟨by rw [hyl]; omega,fun y hy => ?_⟩,rfl,one_row ?_⟩
      · obtain ⟨i,hi⟩ := List.getElem?_of_mem hy
        exact (hys i y hi).1
      · rw [hyl]
        have hcell : ∀ i,i < (ys.flatMap enc).length → W.cell? ⟨b,off + i,none⟩ = some ((W.cell? ⟨b,off + i,none⟩).getD undef) := by
          intro i hi
          have hi' : i < ys.length * sz := by omega
          have hq' : i / sz < len := by rw [← hyl]; exact Nat.div_lt_of_lt_mul (by rw [Nat.mul_comm]; exact hi')
          obtain ⟨u,hu⟩ := cell (i / sz) (by omega) (i % sz) (Nat.mod_lt _ hpos)
          rw [Addr.add_plain,Addr.add_plain,Nat.add_assoc,show i / sz * sz + i % sz = i by rw [Nat.mul_comm]; exact Nat.div_add_mod i sz] at hu
          rw [hu]
          rfl
        refine .rd _ _ false len _ b off cap (fun i => (W.cell? ⟨b,off + i,none⟩).getD undef) (fun hne => ?_) hl hm hcell ?_
        · have : 0 < (ys.flatMap enc).length := by
            rcases Nat.eq_zero_or_pos (ys.flatMap enc).length with h1 | h1
            · exact absurd (List.length_eq_zero_iff.1 h1) hne
            · exact h1
          exact cell_lt (hcell 0 this)
        · refine flat_cells henc hpos fun q y hy r hr => ?_
          obtain ⟨u,hu,hv⟩ := (hys q y hy).2 r hr
          rw [hu]
          exact hv
inductive OpF (P : Program) : List TypeId → {σ : Type} → (σ → List AV) → (σ → Prop) → Prop
  | nil : OpF P [] (σ := Unit) (fun _ => []) (fun _ => True)
  | cons {T : TypeId} {Ts : List TypeId} {α σ : Type} {enc : α → List AV} {wf : α → Prop} {avs : σ → List AV} {wfs : σ → Prop} (h : OpC P T enc wf) (t : OpF P Ts avs wfs) :
      OpF P (T :: Ts) (σ := α × σ) (fun x => enc x.1 ++ avs x.2) (fun x => wf x.1 ∧ wfs x.2)
def consec (P : Program) : Nat → List Field → Option Nat
  | k,[] => some k
  | k,f :: fs => if f.offset = k then consec P (k + P.cellsOf f.type) fs else none
theorem consec_le {P : Program} : ∀ {fs : List Field} {k n : Nat},consec P k fs = some n → k ≤ n
  | [],k,n,h => by cases h; exact Nat.le_refl _
  | f :: fs,k,n,h => by
    unfold consec at h
    split at h
    · have := consec_le h; omega
    · cases h
theorem OpF.open {P : Program} {Ts : List TypeId} {σ : Type} {avs : σ → List AV} {wfs : σ → Prop} (h : OpF P Ts avs wfs) {H : Type} {e : TypeId × Value → H} {W : World} {m : Nat} {cs : List Value} :
    ∀ {fs : List Field} {k n : Nat},fs.map (·.type) = Ts → consec P k fs = some n → cs.length = n →
      (∀ f,f ∈ fs → ∃ x,DataW.trod e P W 0 (fun _ => true) true m f.type ((cs.drop f.offset).take (P.cellsOf f.type)) = some x) →
      ∃ x,wfs x ∧ k + (avs x).length = n ∧ ∀ i (hi : i < (avs x).length),∃ u,cs[k + i]? = some u ∧ VR W (oldZ W) noT ((avs x)[i]'hi) u := by
  induction h with
  | nil =>
    intro fs k n hf hk hl _
    have : fs = [] := by simpa using hf
    subst this
    cases hk
    exact ⟨(),trivial,rfl,fun i hi => absurd hi (by simp)⟩
  | @cons T Ts α σ enc wf avs wfs h t ih =>
    intro fs k n hf hk hl hall
    match fs,hf with
    | f :: fs,hf0 =>
      simp only [List.map_cons,List.cons.injEq] at hf0
      obtain ⟨rfl,hf1⟩ := hf0
      unfold consec at hk
      split at hk
      · rename_i hoff
        have hle := consec_le hk
        obtain ⟨x0,hx0⟩ := hall f (by simp)
        obtain ⟨y,hy,hyl,hv⟩ := h H e W m _ _ hx0
        obtain ⟨x,hx,hxl,hvs⟩ := ih hf1 hk hl fun g hg => hall g (by simp [hg])
        have hn : (enc y).length = P.cellsOf f.type := by
          rw [← hyl,List.length_take,List.length_drop]
          omega
        refine ⟨(y,x),⟨hy,hx⟩,by simp only [List.length_append]; omega,fun i hi => ?_⟩
        rcases Nat.lt_or_ge i (enc y).length with hlt | hge
        · obtain ⟨u,hu,hvr⟩ := hv i hlt
          refine ⟨u,?_,by rw [List.getElem_append_left hlt]; exact hvr⟩
          rw [List.getElem?_take_of_lt (by omega),List.getElem?_drop,hoff] at hu
          exact hu
        · obtain ⟨u,hu,hvr⟩ := hvs (i - (enc y).length) (by simp only [List.length_append] at hi; omega)
          refine ⟨u,?_,by rw [List.getElem_append_right hge]; exact hvr⟩
          rw [← hn,show k + (enc y).length + (i - (enc y).length) = k + i by omega] at hu
          exact hu
      · cases hk
theorem OpC.struct {P : Program} {T : TypeId} {fs : Array Field} {Ts : List TypeId} {σ R : Type} {avs : σ → List AV} {wfs : σ → Prop} {enc : R → List AV} {wf : R → Prop} (hT : P.underlying T = some (.struct fs))
    (hfs : fs.toList.map (·.type) = Ts) (hk : consec P 0 fs.toList = some (P.cellsOf T)) (h : OpF P Ts avs wfs) (mk : σ → R) (he : ∀ x,enc (mk x) = avs x) (hw : ∀ x,wfs x → wf (mk x)) : OpC P T enc wf :=
  fun H e W fuel cs x hx => by
    obtain ⟨xs,n,rfl,_,hl,hxl,hall⟩ := DataW.trod_struct hT hx
    obtain ⟨y,hy,hyl,hv⟩ := h.open (cs := cs) hfs hk hl fun f hf => by
      obtain ⟨i,hi⟩ := List.getElem?_of_mem hf
      have hi' : fs[i]? = some f := by simpa using hi
      have h1 := hall i f hi'
      have : i < xs.length := by
        rw [hxl]
        exact (Array.getElem?_eq_some_iff.1 hi').1
      rw [List.getElem?_eq_getElem this] at h1
      exact ⟨_,h1⟩
    refine ⟨mk y,hw y hy,by rw [he]; omega,fun i hi => ?_⟩
    have hi' : i < (avs y).length := by rw [he] at hi; exact hi
    obtain ⟨u,hu,hvr⟩ := hv i hi'
    refine ⟨u,by simpa using hu,?_⟩
    have : (enc (mk y))[i]'hi = (avs y)[i]'hi' := by
      have h1 : (enc (mk y))[i]? = (avs y)[i]? := by rw [he]
      rw [List.getElem?_eq_getElem hi,List.getElem?_eq_getElem hi'] at h1
      exact Option.some.inj h1
    rw [this]
    exact hvr
theorem mapM_some_at {α β : Type} {f : α → Option β} : ∀ {l : List α} {r : List β},l.mapM f = some r → r.length = l.length ∧ ∀ (i : Nat) (a : α),l[i]? = some a → f a = r[i]?
  | [],r,h => by
    simp at h
    subst h
    exact ⟨rfl,fun i a h => by simp at h⟩
  | a :: l,r,h => by
    rw [List.mapM_cons] at h
    cases hf : f a with
    | none => rw [hf] at h; simp at h
    | some b =>
      cases hr : l.mapM f with
      | none => rw [hf,hr] at h; simp at h
      | some r' =>
        rw [hf,hr] at h
        simp at h
        subst h
        obtain ⟨h1,h2⟩ := mapM_some_at hr
        refine ⟨by simp [h1],fun i c hc => ?_⟩
        cases i with
        | zero => simp at hc; subst hc; simpa using hf
        | succ i => simpa using h2 i c (by simpa using hc)
theorem OpC.array {P : Program} {T E : TypeId} {n : Nat} {α : Type} {enc : α → List AV} {wf : α → Prop} {sz : Nat} (hT : P.underlying T = some (.array n E)) (hc : P.cellsOf E = sz) (hcT : P.cellsOf T = n * sz) (hpos : 0 < sz)
    (henc : ∀ y,(enc y).length = sz) (hE : OpC P E enc wf) : OpC P T (fun ys : List α => ys.flatMap enc) (fun ys => ys.length = n ∧ ∀ y,y ∈ ys → wf y) := fun H e W fuel cs x h => by
  have key : ∃ m xs,cs.length = P.cellsOf T ∧ ((List.range n).mapM fun i => DataW.trod e P W 0 (fun _ => true) true m E ((cs.drop (i * P.cellsOf E)).take (P.cellsOf E))) = some xs := by
    cases fuel with
    | zero => simp [DataW.trod] at h
    | succ m =>
      unfold DataW.trod at h
      rw [hT] at h
      simp only at h
      split at h
      · rename_i hl
        rw [Option.map_eq_some_iff] at h
        obtain ⟨xs,hxs,_⟩ := h
        exact ⟨m,xs,hl,hxs⟩
      · cases h
  obtain ⟨m,xs,hl,hx⟩ := key
  obtain ⟨hxl,hat⟩ := mapM_some_at hx
  have hq : ∀ q,q < n → ∃ y,wf y ∧ ∀ r (hr : r < (enc y).length),∃ u,cs[q * sz + r]? = some u ∧ VR W (oldZ W) noT ((enc y)[r]'hr) u := by
    intro q hq
    have h1 := hat q q (by simp [hq])
    rw [List.getElem?_eq_getElem (by rw [hxl]; simpa using hq)] at h1
    obtain ⟨y,hy,hyl,hv⟩ := hE H e W m _ _ h1
    refine ⟨y,hy,fun r hr => ?_⟩
    obtain ⟨u,hu,hvr⟩ := hv r hr
    rw [hc,List.getElem?_take_of_lt (by rw [henc] at hr; exact hr),List.getElem?_drop] at hu
    exact ⟨u,hu,hvr⟩
  obtain ⟨ys,hyl,hys⟩ := list_of n hq
  have hcl := flatMap_length henc ys
  refine ⟨ys,⟨hyl,fun y hy => ?_⟩,by rw [hcl,hl,hcT,hyl],fun i hi => ?_⟩
  · obtain ⟨i,hi⟩ := List.getElem?_of_mem hy
    exact (hys i y hi).1
  · have hlt : i < cs.length := by rw [hl,hcT]; rw [hcl,hyl] at hi; exact hi
    refine ⟨cs[i],List.getElem?_eq_getElem hlt,?_⟩
    have := flat_cells (W := W) (Z := oldZ W) (ι := noT) (f := fun i => cs[i]?.getD undef) henc hpos (ys := ys) (fun q y hy r hr => by
      obtain ⟨u,hu,hv⟩ := (hys q y hy).2 r hr
      rw [hu]
      exact hv) i hi
    rw [List.getElem?_eq_getElem hlt] at this
    exact this
theorem OpC.opens {P : Program} {T : TypeId} {α : Type} {av : α → AV} {wf : α → Prop} (hT : ∃ D,P.underlying T = some D ∧ match D with | .int _ => True | .bool => True | .string => True | .slice _ => True | _ => False)
    (h : OpC P T (fun y => [av y]) wf) : Opens P T av wf := fun H e W base v d ps hval hd => by
  obtain ⟨fuel,hf⟩ := hd
  obtain ⟨y,hy,hl,hv⟩ := h H e W fuel _ _ hf
  obtain ⟨u,hu,hvr⟩ := hv 0 (by simp)
  refine ⟨y,hy,?_⟩
  obtain ⟨D,hD,hm⟩ := hT
  have hcells : v.cells.toList = [v] := by
    cases v with
    | agg cs => simp only [Value.okWide,hD] at hval; cases D <;> simp_all [Cell.okWide,Cell.ok]
    | tuple vs => simp only [Value.okWide,hD] at hval; cases D <;> simp_all [Cell.okWide,Cell.ok]
    | _ => rfl
  rw [hcells] at hu
  cases hu
  exact hvr
theorem OpC.aggs {P : Program} {T : TypeId} {α : Type} {enc : α → List AV} {wf : α → Prop} (hT : ∃ D,P.underlying T = some D ∧ match D with | .struct _ => True | .array _ _ => True | _ => False)
    (h : OpC P T enc wf) : Opens P T (fun y => .agg (enc y)) wf := fun H e W base v d ps hval hd => by
  obtain ⟨fuel,hf⟩ := hd
  obtain ⟨D,hD,hm⟩ := hT
  have hv0 : ∃ cs,v = .agg cs := by
    simp only [Value.okWide,hD] at hval
    cases D with
    | struct fs => obtain ⟨cs,hcs,_⟩ := hval; exact ⟨cs,hcs⟩
    | array n E => obtain ⟨cs,hcs,_⟩ := hval; exact ⟨cs,hcs⟩
    | _ => exact absurd hm (by simp)
  obtain ⟨cs,rfl⟩ := hv0
  obtain ⟨y,hy,hl,hv⟩ := h H e W fuel _ _ hf
  refine ⟨y,hy,?_⟩
  have hcs : (Value.agg cs).cells.toList = cs.toList := rfl
  rw [hcs] at hl hv
  have := VR.agg (w := W) (oldZ W) noT (enc y) cs.toList hl fun i hi => by
    obtain ⟨u,hu,hvr⟩ := hv i hi
    rw [List.getElem?_eq_getElem (by omega)] at hu
    rw [Option.some.inj hu]
    exact hvr
  simpa using this
end Go.AB
namespace Go.AB
open Go Go.RowKit
end Go.AB
namespace Go.AB
open Go
def sgT (l : List (Nat × Nat)) (t : Nat) : Nat := match look t l with | some x => x | none => t
inductive SzL (P : Program) : List TypeId → List Nat → Prop
  | nil : SzL P [] []
  | cons {T : TypeId} {n : Nat} {Ts : List TypeId} {ns : List Nat} (h : szOf P T n) (t : SzL P Ts ns) : SzL P (T :: Ts) (n :: ns)
def offsOf (P : Program) (T : TypeId) (offs : List (Nat × Nat)) : Prop :=
  ∃ fs : Array Field,P.underlying T = some (.struct fs) ∧ fs.toList.map (·.offset) = offs.map (·.1) ∧ SzL P (fs.toList.map (·.type)) (offs.map (·.2))
theorem offsOf.run {P : Program} : ∀ {l : List Field} {offs : List (Nat × Nat)},l.map (·.offset) = offs.map (·.1) → SzL P (l.map (·.type)) (offs.map (·.2)) → ∀ w,
    (l.mapM fun f => Functor.map (Prod.mk f.offset) (sizeOf f.type) : Sem (List (Nat × Nat))).run P w = .ok offs w
  | [],offs,h,_,w => by
    have : offs = [] := by simpa using h.symm
    subst this
    simp
  | f :: l,offs,h,hs,w => by
    match offs,h,hs with
    | (o,n) :: offs,h,hs =>
      simp only [List.map_cons,List.cons.injEq] at h
      cases hs with
      | cons h1 t =>
        rw [List.mapM_cons]
        have hz : (sizeOf f.type).run P w = .ok n w := h1.run w
        simp [hz,offsOf.run h.2 t,h.1]
section
variable {C : Ctx} {s : St} {d : Nat} {ty : TypeId} {p : String} {e : Array Edge} {g : Option (Nat × Bool)}
theorem AStep.buildO {T : TypeId} {parts : Array (Nat × Operand)} {vs : List (Nat × AV)} {z : List Value} {offs : List (Nat × Nat)} {out : List AV} (hd : d < C.N) (hev : EvL C s parts.toList vs) (hz : zeroT C.P T z)
    (ho : offsOf C.P T offs) (hout : fillA (fun i => offs[i]?) (z.map .sc) vs = some out) : AStep C ⟨some d,.build T parts,ty,p,e,g⟩ s (s.put d (.agg out)) := by
  obtain ⟨fs,hT,h1,h2⟩ := ho
  refine AStep.build hd hev hT hz (fun w => ?_) hout
  have := offsOf.run h1 h2 w
  rw [Array.mapM_eq_mapM_toList]
  simp [this]
end
theorem one_lit {vs : List AV} (h : vs.all AV.one = true) : ∀ v,v ∈ vs → v.one = true := List.all_eq_true.1 h
end Go.AB
namespace Go.AB
open Go
theorem Rel.weakB {C : Ctx} {s : St} {ι : Tags} {a : Act} {w : World} (r : Rel C s ι a w) {t : Nat} {k : Blk} {cells : List AV} (hk : look t s.heap = some k) (hl : cells.length ≤ k.cells.length)
    (h : ∀ i (hi : i < cells.length),cells[i] = .any ∨ k.cells[i]? = some cells[i]) : Rel C ⟨s.env,updH t { k with cells := cells } s.heap⟩ ι a w := by
  have hhas : ∀ t',has t' (updH t { k with cells := cells } s.heap) ↔ has t' s.heap := fun t' => has_updH ⟨_,hk⟩
  have hZ : ∀ β b,zone C s.heap ι w β b → zone C (updH t { k with cells := cells } s.heap) ι w β b := fun β b h => ⟨h.1,fun t ht => h.2.1 t ((hhas t).1 ht),h.2.2⟩
  refine ⟨r.size,r.dfr,fun d v hl => ?_,⟨fun t' k' hl' => ?_,fun t t' b h1 h2 => r.core.inj t t' b ((hhas t).1 h1) ((hhas t').1 h2),fun t b h => r.core.own t b ((hhas t).1 h),r.core.tr⟩,r.stab⟩
  · exact (r.env d v hl).mono (fun _ _ h => h) _ _ hZ (fun _ _ _ _ _ h => h) (fun _ _ _ h => h)
  · by_cases e : t' = t
    · subst e
      rw [look_updH_self _ _ ⟨_,hk⟩] at hl'
      cases hl'
      have h0 := r.core.blk t' k hk
      unfold BlkR at h0 ⊢
      cases hx : ι t' with
      | none =>
        simp only [hx] at h0 ⊢
        refine ⟨?_,h0.2⟩
        rw [h0.1] at hl
        exact List.eq_nil_of_length_eq_zero (by simpa using hl)
      | some b =>
        simp only [hx] at h0 ⊢
        obtain ⟨cur,q1,q2,q3⟩ := h0
        refine ⟨cur,q1,Nat.le_trans hl q2,fun i hi => ?_⟩
        obtain ⟨u,hu,hv⟩ := q3 i (by omega)
        refine ⟨u,hu,?_⟩
        rcases h i hi with h1 | h1
        · rw [h1]; exact .any _ _ _
        · rw [List.getElem?_eq_getElem (by omega)] at h1
          rw [← Option.some.inj h1]
          refine hv.mono (fun _ _ h => h) _ _ ?_ (fun _ _ _ _ _ h => h) (fun _ _ _ h => h)
          obtain ⟨kt,kl,kc⟩ := k
          cases kl with
          | true => exact fun _ b hb => hZ false b hb
          | false => exact hZ
    · rw [look_updH_ne e] at hl'
      have h0 := r.core.blk t' k' hl'
      unfold BlkR at h0 ⊢
      cases hx : ι t' with
      | none => simp only [hx] at h0 ⊢; exact h0
      | some b =>
        simp only [hx] at h0 ⊢
        obtain ⟨cur,q1,q2,q3⟩ := h0
        refine ⟨cur,q1,q2,fun i hi => ?_⟩
        obtain ⟨u,hu,hv⟩ := q3 i hi
        refine ⟨u,hu,hv.mono (fun _ _ h => h) _ _ ?_ (fun _ _ _ _ _ h => h) (fun _ _ _ h => h)⟩
        cases k'.lst with
        | true => exact fun _ b hb => hZ _ _ hb
        | false => exact hZ
theorem VC.weakB {C : Ctx} {s : St} {t : Nat} {k : Blk} {cells : List AV} (hk : look t s.heap = some k) (hl : cells.length ≤ k.cells.length)
    (h : ∀ i (hi : i < cells.length),cells[i] = .any ∨ k.cells[i]? = some cells[i]) : VC C s ⟨s.env,updH t { k with cells := cells } s.heap⟩ := fun ι a w r => ⟨ι,r.weakB hk hl h⟩
def AStepE (C : Ctx) (o : Oper) (s : St) (S : Nat → St) : Prop :=
  ∀ ι a w (K : Act → World → Prop) (Q : Exit → Act → World → Prop),Rel C s ι a w → (∀ q ι' a' w',Rel C (S q) ι' a' w' → K a' w') → o.wpIn (Fc C.r) 0 C.P a w K Q
def ARunE (C : Ctx) (A : Array Oper) (l : List Oper) (s : St) (S : Nat → St) : Prop :=
  ∀ ι a w (Q : Exit → Act → World → Prop),Rel C s ι a w → (∀ q ι' a' w',Rel C (S q) ι' a' w' → Q .normal a' w') → wpListIn (Fc C.r) 0 C.P A Q l a w
theorem ARunE.nil (C : Ctx) (A : Array Oper) (S : Nat → St) (q : Nat) : ARunE C A [] (S q) S := fun ι a w _ r h => h q ι a w r
theorem ARunE.nilV {C : Ctx} {A : Array Oper} {S : Nat → St} {s : St} (q : Nat) (v : VC C s (S q)) : ARunE C A [] s S := fun ι a w _ r h => let ⟨ι',r'⟩ := v ι a w r; h q ι' a w r'
theorem ARunE.vc {C : Ctx} {A : Array Oper} {l : List Oper} {s s1 : St} {S : Nat → St} (h : VC C s s1) (t : ARunE C A l s1 S) : ARunE C A l s S := fun ι a w Q r hq =>
  let ⟨ι',r'⟩ := h ι a w r; t ι' a w Q r' hq
theorem ARunE.cons {C : Ctx} {A : Array Oper} {d : Option Nat} {op : Op} {ty : TypeId} {p : String} {e : Array Edge} {l : List Oper} {s s1 : St} {S : Nat → St}
    (h : AStep C ⟨d,op,ty,p,e,none⟩ s s1) (t : ARunE C A l s1 S) : ARunE C A (⟨d,op,ty,p,e,none⟩ :: l) s S := fun ι a w Q r hq => by
  refine wpListIn_plain rfl fun K hK => h ι a w K Q r fun ι' a' w' r' => hK _ _ (t ι' a' w' Q r' hq)
theorem ARunE.consE {C : Ctx} {A : Array Oper} {d : Option Nat} {op : Op} {ty : TypeId} {p : String} {e : Array Edge} {l : List Oper} {s : St} {S1 S : Nat → St}
    (h : AStepE C ⟨d,op,ty,p,e,none⟩ s S1) (t : ∀ q,ARunE C A l (S1 q) S) : ARunE C A (⟨d,op,ty,p,e,none⟩ :: l) s S := fun ι a w Q r hq => by
  refine wpListIn_plain rfl fun K hK => h ι a w K Q r fun q ι' a' w' r' => hK _ _ (t q ι' a' w' Q r' hq)
theorem AWP.regionE {C : Ctx} {Q : Exit → St → Prop} {s : St} {S : Nat → St} {id : Nat} {l : List Oper} (h : ARunE C l.toArray l s S) (hq : ∀ q,Q .normal (S q)) : AWP C (.region id l.toArray false) Q s :=
  fun ι a w r => wpIn_region_lit (h ι a w _ r fun q ι' _ _ r' => ⟨S q,ι',r',hq q⟩)
theorem AStepE.run {C : Ctx} {o : Oper} {s : St} {S : Nat → St} (ho : ∀ c,o.op ≠ .defer c)
    (h : ∀ ι a w,Rel C s ι a w → ∃ q u w' ι',(execOp a.eval o).run C.P w = .ok (.value u) w' ∧ Rel C (S q) ι' (a.put o.dst u) w') : AStepE C o s S := by
  intro ι a w K Q r hk
  obtain ⟨q,u,w',ι',hr,r'⟩ := h ι a w r
  refine ⟨fun _ _ => trivial,?_⟩
  rw [semAt_plain _ _ _ ho,hr]
  exact hk _ _ _ _ r'
section
variable {C : Ctx} {s : St} {d : Nat} {ty : TypeId} {p : String} {e : Array Edge} {g : Option (Nat × Bool)}
theorem AStepE.append {x y : Operand} {T U E : TypeId} {t sz by_ n m gh : Nat} {cells ys : List AV} (hd : d < C.N) (hK : t ∉ C.K) (hx : Ev C s x (.own t sz gh n)) (hy : Src C s y sz m ys)
    (hT : C.P.underlying T = some (.slice E)) (hU : ∃ D,C.P.underlying U = some D ∧ ∀ k,D ≠ .int k) (hE : elT C.P E sz by_) (hk : look t s.heap = some ⟨E,true,List.replicate gh .any ++ cells⟩)
    (hl : cells.length = n * sz) (h63 : n + m ≤ maxLen) (hbytes : (n + m) * by_ ≤ 140737488355328) :
    AStepE C ⟨some d,.call { callee := .builtin .append,args := #[x,y],argTypes := #[T,U] },ty,p,e,g⟩ s (fun q => s.newP d t ⟨E,true,List.replicate q .any ++ (cells ++ ys)⟩ (.own t sz q (n + m))) :=
  .run (fun _ h => by cases h) fun ι a w r => by
    obtain ⟨i,z,hi,hz,hsz,hby,hzs⟩ := hE
    subst hsz hby
    obtain ⟨news,n1,n2,n3,n4,n5,n6⟩ := hy ι a w r
    have hexec : ∀ base c,a.eval x = .slice base n c → (execOp a.eval ⟨some d,.call { callee := .builtin .append,args := #[x,y],argTypes := #[T,U] },ty,p,e,g⟩).run C.P w =
        ((Builtin.append_ #[T,U] ty #[.slice base n c,a.eval y]).run C.P w).andThen fun v w' => .ok (.value v) w' := by
      intro base c hu
      simp [execOp,resolve,invoke,builtin,hu]
    have hany := fun base c olds => run_append_any (ty := ty) hT hi hz hU base n c (a.eval y) m news olds n1 n2
    have grow : ∀ (base : Option Addr) (c : Nat) (olds : List Value),a.eval x = .slice base n c → c < n + m →
        (∀ w',w'.heap = w.heap → (Builtin.firstCells i.size n (.slice base n c)).run C.P w' = .ok olds.toArray w') → olds.length = n * i.size →
        (∀ j (hj : j < cells.length),∃ u,olds[j]? = some u ∧ VR w (fun _ => zone C s.heap ι w false) (fun _ => none) (cells[j]'hj) u) →
        ∃ q u w' ι',(execOp a.eval ⟨some d,.call { callee := .builtin .append,args := #[x,y],argTypes := #[T,U] },ty,p,e,g⟩).run C.P w = .ok (.value u) w' ∧
          Rel C (s.newP d t ⟨E,true,List.replicate q .any ++ (cells ++ ys)⟩ (.own t i.size q (n + m))) ι' (a.put (some d) u) w' := by
      intro base c olds hu hg hof hol hvr
      obtain ⟨c',hc1,hc2,hrun⟩ := (hany base c olds hof h63 hbytes).2 hg
      have hcs : (olds.toArray ++ news.toArray ++ Builtin.zeroCells z.cells (c' - (n + m))).size = c' * i.size := by
        have e1 : n * i.size + m * i.size + (c' - (n + m)) * i.size = c' * i.size := by rw [← Nat.add_mul,← Nat.add_mul]; congr 1; omega
        simp [size_zeroCells,hzs,hol,n3,e1]
      refine ⟨0,_,_,setT ι t w.heap.size,by rw [hexec base c hu,hrun]; rfl,?_⟩
      simp only [List.replicate_zero,List.nil_append]
      refine r.newL hd hK rfl rfl rfl rfl ?_ ?_ ?_
      · rw [hcs]
        have : (n + m) * i.size ≤ c' * i.size := Nat.mul_le_mul_right _ hc1
        rw [Nat.add_mul] at this
        simp [hl,n4]; omega
      · intro j hj
        obtain ⟨u,hu1,hu2⟩ := row_of (us := olds) (vs := news) (by rw [hl,hol]) hvr n6 j hj
        refine ⟨u,?_,hu2⟩
        rw [← Array.getElem?_toList]
        simp only [Array.toList_append]
        rw [List.getElem?_append_left (by rw [List.length_append] at hj ⊢; simp [hol,n3]; omega)]
        exact hu1
      · intro hb
        exact .own _ _ _ _ _ _ w.heap.size c' _ (by simp [setT]) hc1 hc2 hb (by rw [hcs]; omega)
    rcases own_inv (hx ι a w r) with ⟨rfl,hu⟩ | ⟨b,cap,q,hu,ht,hn,hc,hs,ho⟩
    · have hcl : cells = [] := List.eq_nil_of_length_eq_zero (by simpa using hl)
      subst hcl
      by_cases hm : m = 0
      · subst hm
        have hyl : ys = [] := List.eq_nil_of_length_eq_zero (by simpa using n4)
        have hnl : news = [] := List.eq_nil_of_length_eq_zero (by simpa using n3)
        subst hyl hnl
        have fin : ∀ u,VR w (zone C s.heap ι w) ι (.own t i.size gh 0) u → Rel C (s.newP d t ⟨E,true,List.replicate gh .any ++ ([] ++ [])⟩ (.own t i.size gh (0 + 0))) ι (a.put (some d) u) w := by
          intro u hvr
          have r1 := r.purge hk (purgeE_weak (s := s) (t := t))
          refine (r1.put hd ?_)
          refine hvr.mono (fun _ _ h => h) _ _ (fun β b hb => ⟨hb.1,fun t' ht' => hb.2.1 t' ?_,hb.2.2⟩) (fun _ _ _ _ _ h => h) (fun _ _ _ h => h)
          by_cases e : t' = t
          · subst e; exact ⟨_,hk⟩
          · obtain ⟨q,hq⟩ := ht'
            rw [look_cons_ne e] at hq
            exact (has_purgeH.1 ⟨q,hq⟩).2
        rcases hu with hu | ⟨b,o,hu⟩
        · have h := (hany none 0 [] (fun w' _ => by simp [Builtin.firstCells]) h63 hbytes).1 (by omega)
          exact ⟨gh,_,w,ι,by rw [hexec none 0 hu,h]; rfl,fin _ (.ownnil _ _ _ _ _)⟩
        · have h := (hany (some ⟨b,o,none⟩) 0 [] (fun w' _ => firstCells_some (by simp) fun j hj => absurd hj (by simp)) h63 hbytes).1 (by omega)
          exact ⟨gh,.slice (some ⟨b,o,none⟩) 0 0,w,ι,by rw [hexec _ 0 hu,h]; simp [storeCells],fin _ (.ownz _ _ _ _ _ _ _)⟩
      · rcases hu with hu | ⟨b,o,hu⟩
        · exact grow none 0 [] hu (by omega) (fun w' _ => by simp [Builtin.firstCells]) (by simp) (fun j hj => absurd hj (by simp))
        · exact grow _ 0 [] hu (by omega) (fun w' _ => firstCells_some (by simp) fun j hj => absurd hj (by simp)) (by simp) (fun j hj => absurd hj (by simp))
    · obtain ⟨cur,hb,hlc,hcv⟩ := blk_inv r.core hk ht
      simp only [cond_true] at hcv hlc hb
      have hlc' : gh + n * i.size ≤ cur.size := by simpa [hl] using hlc
      have hcv' : ∀ j (hj : j < cells.length),∃ u,cur[gh + j]? = some u ∧ VR w (fun _ => zone C s.heap ι w false) (fun _ => none) (cells[j]'hj) u := by
        intro j hj
        obtain ⟨u,hu1,hu2⟩ := hcv (gh + j) (by simp; omega)
        refine ⟨u,hu1,?_⟩
        have : (List.replicate gh AV.any ++ cells)[gh + j]'(by simp; omega) = cells[j] := by
          rw [List.getElem_append_right (by simp)]
          simp
        rwa [this] at hu2
      have hq : q = cur.size := by simp only [bsz,hb] at hs; exact (Option.some.inj hs).symm
      subst hq
      have hld : ((cur.toList.drop gh).take (n * i.size)).length = n * i.size := by simp; omega
      have hof : ∀ w',w'.heap = w.heap → (Builtin.firstCells i.size n (.slice (some ⟨b,gh,none⟩) n cap)).run C.P w' = .ok ((cur.toList.drop gh).take (n * i.size)).toArray w' := fun w' hw' =>
        firstCells_some hld fun j hj => by
          rw [cell?_heap hw',cell_of_row w b (gh + j) cur E (0,0) hb,List.getElem?_take,if_pos hj]; simp
      by_cases hroom : n + m ≤ cap
      · have hfit : gh + n * i.size + news.length ≤ cur.size := by
          have : (n + m) * i.size ≤ cap * i.size := Nat.mul_le_mul_right _ hroom
          rw [Nat.add_mul] at this
          omega
        have hstc := run_storeCells_at C.P b (gh + n * i.size) E news 0 cur w hb (by omega) n5
        have h := (hany (some ⟨b,gh,none⟩) cap _ hof h63 hbytes).1 hroom
        refine ⟨gh,.slice (some ⟨b,gh,none⟩) (n + m) cap,w.setRow b (cur.toList.take (gh + n * i.size + 0) ++ news ++ cur.toList.drop (gh + n * i.size + 0 + news.length)).toArray,ι,?_,?_⟩
        · rw [hexec _ cap hu,h]
          simp only [Addr.add_plain]
          rw [hstc]
          rfl
        · have hcs' : (cur.toList.take (gh + n * i.size + 0) ++ news ++ cur.toList.drop (gh + n * i.size + 0 + news.length)).toArray.size = cur.size := by
            simp; omega
          have hbig : (w.setRow b (cur.toList.take (gh + n * i.size + 0) ++ news ++ cur.toList.drop (gh + n * i.size + 0 + news.length)).toArray).heap[b]? = some (.cells (cur.toList.take (gh + n * i.size + 0) ++ news ++ cur.toList.drop (gh + n * i.size + 0 + news.length)).toArray E (0,0)) :=
            setRow_heap w b cur _ E _ hb
          have hoth : ∀ j,j ≠ b → (w.setRow b (cur.toList.take (gh + n * i.size + 0) ++ news ++ cur.toList.drop (gh + n * i.size + 0 + news.length)).toArray).heap[j]? = w.heap[j]? := fun j hj => setRow_other w b j _ hj
          generalize hW : w.setRow b (cur.toList.take (gh + n * i.size + 0) ++ news ++ cur.toList.drop (gh + n * i.size + 0 + news.length)).toArray = W at hbig hoth ⊢
          have hsz : ∀ x q,bsz w x = some q → bsz W x = some q := by
            intro x q hx
            by_cases e : x = b
            · subst e
              simp only [bsz,hb] at hx
              simp only [bsz,hbig,hcs']
              exact hx
            · simp only [bsz,hoth x e]; exact hx
          have r1 := r.write (w' := W) hk ht (by rw [← hW]; rfl) (by rw [← hW]; rfl) (by rw [← hW]; rfl) (by rw [← hW]; simp) hoth (k' := ⟨E,true,List.replicate gh .any ++ (cells ++ ys)⟩) hb hbig hcs' (by rw [hcs']; simp [hl,n4]; omega) ?_
          · have hk' : look t (updH t ⟨E,true,List.replicate gh .any ++ (cells ++ ys)⟩ s.heap) = some ⟨E,true,List.replicate gh .any ++ (cells ++ ys)⟩ := look_updH_self _ _ ⟨_,hk⟩
            have r2 := r1.purge hk' (E := purgeE t s.env) purgeE_weak
            have r3 := r2.put hd (v := .own t i.size gh (n + m)) (u := .slice (some ⟨b,gh,none⟩) (n + m) cap) (.own _ _ _ _ _ _ b cap cur.size ht hroom hc (hsz _ _ hs) ho)
            refine r3.weak (fun t' => ?_) (fun d' v' h => .inr h) (fun t' k' h => ?_)
            · simp only [St.newP,St.put]
              by_cases e : t' = t
              · subst e; exact ⟨fun _ => ⟨_,look_cons_self _ _ _⟩,fun _ => ⟨_,look_cons_self _ _ _⟩⟩
              · unfold has; rw [look_cons_ne e,look_cons_ne e,look_purgeH_ne e,look_purgeH_ne e,look_updH_ne e]
            · simp only [St.newP,St.put] at h ⊢
              refine ⟨k',?_,rfl,rfl,.inl rfl⟩
              by_cases e : t' = t
              · subst e; rw [look_cons_self] at h ⊢; exact h
              · rw [look_cons_ne e,look_purgeH_ne e] at h ⊢; rw [look_updH_ne e]; exact h
          · simp only [cond_true]
            intro j hj
            by_cases hjg : j < gh
            · have hsize : j < (cur.toList.take (gh + n * i.size + 0) ++ news ++ cur.toList.drop (gh + n * i.size + 0 + news.length)).toArray.size := by rw [hcs']; omega
              refine ⟨_,Array.getElem?_eq_getElem hsize,?_⟩
              have : (List.replicate gh AV.any ++ (cells ++ ys))[j]'hj = .any := by rw [List.getElem_append_left (by simpa using hjg)]; simp
              rw [this]
              exact .any _ _ _
            · have hj2 : j - gh < (cells ++ ys).length := by simp at hj ⊢; omega
              obtain ⟨u,hu1,hu2⟩ := row_of (us := (cur.toList.drop gh).take (n * i.size)) (vs := news) (by rw [hl,hld]) (fun j hj => by
                obtain ⟨u,hu1,hu2⟩ := hcv' j hj
                exact ⟨u,by rw [List.getElem?_take,if_pos (by omega),List.getElem?_drop]; simpa using hu1,hu2⟩) n6 (j - gh) hj2
              refine ⟨u,?_,?_⟩
              · rw [← Array.getElem?_toList]
                simp only [Nat.add_zero]
                rw [List.getElem?_append_left (by simp at hj ⊢; omega)]
                have e1 : cur.toList.take (gh + n * i.size) ++ news = cur.toList.take gh ++ ((cur.toList.drop gh).take (n * i.size) ++ news) := by
                  rw [← List.append_assoc,List.take_add]
                rw [e1,List.getElem?_append_right (by simp; omega)]
                have e2 : (cur.toList.take gh).length = gh := by simp; omega
                rw [e2]
                exact hu1
              · have e3 : (List.replicate gh AV.any ++ (cells ++ ys))[j]'hj = (cells ++ ys)[j - gh]'hj2 := by
                  rw [List.getElem_append_right (by simp; omega)]
                  simp
                rw [e3]
                refine hu2.mono hsz _ _ (fun _ _ h => h) (fun _ x o y hx hy => ?_) (fun _ _ _ h => h)
                have hne : x ≠ b := fun e => hx.2.1 t ⟨_,hk⟩ (by rw [ht,e])
                rw [World.cell?_of_block (a := ⟨x,o,none⟩) (hoth x hne)]; exact hy
      · refine grow (some ⟨b,gh,none⟩) cap _ hu (by omega) hof hld (fun j hj => ?_)
        obtain ⟨u,hu1,hu2⟩ := hcv' j hj
        exact ⟨u,by rw [List.getElem?_take,if_pos (by omega),List.getElem?_drop]; simpa using hu1,hu2⟩
theorem AStepE.app {α : Type} {enc : α → List AV} {x y : Operand} {T U E : TypeId} {t sz by_ n m gh : Nat} {xs ys zs : List α} (hd : d < C.N) (hK : t ∉ C.K) (hx : Ev C s x (.own t sz gh n)) (hy : Src C s y sz m (ys.flatMap enc))
    (hT : C.P.underlying T = some (.slice E)) (hU : ∃ D,C.P.underlying U = some D ∧ ∀ k,D ≠ .int k) (hE : elT C.P E sz by_) (hk : look t s.heap = some ⟨E,true,List.replicate gh .any ++ xs.flatMap enc⟩)
    (henc : ∀ y,(enc y).length = sz) (hn : n = xs.length) (hm : m = ys.length) (hb : by_ ≤ 128) (hz : apd xs ys = some zs) :
    AStepE C ⟨some d,.call { callee := .builtin .append,args := #[x,y],argTypes := #[T,U] },ty,p,e,g⟩ s (fun q => s.newP d t ⟨E,true,List.replicate q .any ++ zs.flatMap enc⟩ (.own t sz q zs.length)) := by
  obtain ⟨h1,rfl,h3⟩ := apdS hz
  subst hn hm
  have hbytes : (xs.length + ys.length) * by_ ≤ 140737488355328 := by
    have : (xs.length + ys.length) * by_ ≤ 1099511627776 * 128 := Nat.mul_le_mul h1 hb
    omega
  have := AStepE.append (ty := ty) (p := p) (e := e) (g := g) hd hK hx hy hT hU hE hk (flatMap_length henc xs) (by simp only [maxLen]; omega) hbytes
  rw [h3,List.flatMap_append]
  exact this
theorem AStep.slOwn {α : Type} {enc : α → List AV} {sz gh n : Nat} {x : Operand} {lo hi : Option Operand} {T E U : TypeId} {t : Nat} {xs ys : List α} {l h : Int} (hd : d < C.N) (hx : Ev C s x (.own t sz gh n))
    (hk : look t s.heap = some ⟨U,true,List.replicate gh .any ++ xs.flatMap enc⟩) (hT : C.P.underlying T = some (.slice E)) (hE : szOf C.P E sz) (henc : ∀ y,(enc y).length = sz) (hn : n = xs.length)
    (hl : BdI C s lo 0 l) (hh : BdI C s hi xs.length h) (hy : slc xs l h = some ys) {gh' : Nat} (hg : gh' = gh + l.toNat * sz) :
    AStep C ⟨some d,.slice T x lo hi none,ty,p,e,g⟩ s ⟨(d,.own t sz gh' ys.length) :: s.env,updH t ⟨U,true,List.replicate gh' .any ++ ys.flatMap enc⟩ s.heap⟩ := by
  obtain ⟨h0,h1,h2,h3,h4⟩ := slcS hy
  subst hn hg
  have h5 := AStep.sliceOwn (ty := ty) (p := p) (e := e) (g := g) (h := h.toNat) hd hx hT hE (hl.nat (d := 0) h0) (hh.nat (by omega)) (by omega) (by omega)
  rw [h4]
  refine h5.vc ?_
  have hk' : look t (s.put d (.own t sz (gh + l.toNat * sz) (h.toNat - l.toNat))).heap = some ⟨U,true,List.replicate gh .any ++ xs.flatMap enc⟩ := hk
  have hyl : (ys.flatMap enc).length = (h.toNat - l.toNat) * sz := by rw [flatMap_length henc,h4]
  have hxl := flatMap_length henc xs
  have hmul : l.toNat * sz + (h.toNat - l.toNat) * sz = h.toNat * sz := by rw [← Nat.add_mul]; congr 1; omega
  have hle : h.toNat * sz ≤ xs.length * sz := Nat.mul_le_mul_right _ (by omega)
  refine VC.weakB hk' ?_ fun i hi => ?_
  · simp only [List.length_append,List.length_replicate,hyl,hxl]
    omega
  · by_cases hig : i < gh + l.toNat * sz
    · left
      rw [List.getElem_append_left (by simpa using hig)]
      simp
    · right
      have hi2 : i - (gh + l.toNat * sz) < (ys.flatMap enc).length := by simp only [List.length_append,List.length_replicate] at hi; omega
      rw [List.getElem_append_right (by simp; omega)]
      simp only [List.length_replicate]
      rw [List.getElem?_append_right (by simp; omega)]
      simp only [List.length_replicate]
      have e1 : ys.flatMap enc = ((xs.flatMap enc).drop (l.toNat * sz)).take ((h.toNat - l.toNat) * sz) := by
        rw [h3,flatMap_drop henc,flatMap_take henc]
      have e2 : (ys.flatMap enc)[i - (gh + l.toNat * sz)]? = (xs.flatMap enc)[i - gh]? := by
        rw [e1,List.getElem?_take,if_pos (by rw [hyl] at hi2; omega),List.getElem?_drop]
        congr 1
        omega
      rw [← e2,List.getElem?_eq_getElem hi2]
end
end Go.AB
namespace Go.AB
open Go
theorem VC.cellsW {C : Ctx} {s : St} {t : Nat} {k k' : Blk} (hk : look t s.heap = some k) (hty : k'.ty = k.ty) (hl : k'.cells.length = k.cells.length) (hnil : k.lst = true ∨ k.cells ≠ []) (hls : k.cells = [] → k'.lst = true)
    (h : ∀ i (hi : i < k.cells.length) (hi' : i < k'.cells.length) w Z ι u,(∀ b,Z false b → Z true b) → VR w (bif k.lst then fun _ => Z false else Z) (bif k.lst then fun _ => none else ι) k.cells[i] u →
      VR w (bif k'.lst then fun _ => Z false else Z) (bif k'.lst then fun _ => none else ι) k'.cells[i] u) : VC C s ⟨s.env,updH t k' s.heap⟩ := fun ι a w r => by
  have hhas : ∀ t',has t' (updH t k' s.heap) ↔ has t' s.heap := fun t' => has_updH ⟨_,hk⟩
  have hZ : ∀ β b,zone C s.heap ι w β b → zone C (updH t k' s.heap) ι w β b := fun β b h => ⟨h.1,fun t ht => h.2.1 t ((hhas t).1 ht),h.2.2⟩
  refine ⟨ι,r.size,r.dfr,fun d v hl => ?_,⟨fun t' k1 hl' => ?_,fun t t' b h1 h2 => r.core.inj t t' b ((hhas t).1 h1) ((hhas t').1 h2),fun t b h => r.core.own t b ((hhas t).1 h),r.core.tr⟩,r.stab⟩
  · exact (r.env d v hl).mono (fun _ _ h => h) _ _ hZ (fun _ _ _ _ _ h => h) (fun _ _ _ h => h)
  · by_cases e : t' = t
    · subst e
      rw [look_updH_self _ _ ⟨_,hk⟩] at hl'
      cases hl'
      have h0 := r.core.blk t' k hk
      unfold BlkR at h0 ⊢
      cases hx : ι t' with
      | none =>
        simp only [hx] at h0 ⊢
        refine ⟨?_,hls h0.1⟩
        rw [h0.1] at hl
        exact List.eq_nil_of_length_eq_zero (by simpa using hl)
      | some b =>
        simp only [hx] at h0 ⊢
        obtain ⟨cur,q1,q2,q3⟩ := h0
        refine ⟨cur,by rw [hty]; exact q1,by omega,fun i hi => ?_⟩
        obtain ⟨u,hu,hv⟩ := q3 i (by omega)
        refine ⟨u,hu,h i (by omega) hi w (zone C (updH t' k' s.heap) ι w) ι u (fun b hb => ⟨hb.1,hb.2.1,?_⟩) ?_⟩
        · rcases hb.2.2 with ⟨h,_⟩ | h | h | h
          · cases h
          · exact .inr (.inl h)
          · exact .inr (.inr (.inl h))
          · exact .inr (.inr (.inr h))
        · refine hv.mono (fun _ _ h => h) _ _ ?_ (fun _ _ _ _ _ h => h) (fun _ _ _ h => h)
          obtain ⟨kt,kl,kc⟩ := k
          cases kl with
          | true => exact fun _ b hb => hZ false b hb
          | false => exact hZ
    · rw [look_updH_ne e] at hl'
      have h0 := r.core.blk t' k1 hl'
      unfold BlkR at h0 ⊢
      cases hx : ι t' with
      | none => simp only [hx] at h0 ⊢; exact h0
      | some b =>
        simp only [hx] at h0 ⊢
        obtain ⟨cur,q1,q2,q3⟩ := h0
        refine ⟨cur,q1,q2,fun i hi => ?_⟩
        obtain ⟨u,hu,hv⟩ := q3 i hi
        refine ⟨u,hu,hv.mono (fun _ _ h => h) _ _ ?_ (fun _ _ _ _ _ h => h) (fun _ _ _ h => h)⟩
        cases k1.lst with
        | true => exact fun _ b hb => hZ _ _ hb
        | false => exact hZ
section
variable {C : Ctx} {s : St} {d : Nat} {ty : TypeId} {p : String} {e : Array Edge} {g : Option (Nat × Bool)}
theorem VC.relst {t : Nat} {E : TypeId} {cells : List AV} (hk : look t s.heap = some ⟨E,false,cells⟩) (hne : cells ≠ []) (hs : ∀ c,c ∈ cells → c.still = true) : VC C s ⟨s.env,updH t ⟨E,true,cells⟩ s.heap⟩ :=
  VC.cellsW hk rfl rfl (.inr hne) (fun h => absurd h hne) fun i hi hi' w Z ι u hZ hv => by
    have hv' : VR w Z ι (cells[i]'hi) u := hv
    show VR w (fun _ => Z false) (fun _ => none) (cells[i]'hi) u
    exact hv'.still (hs _ (List.getElem_mem hi))
end
theorem ne_of_idx {α : Type} {enc : α → List AV} {sz : Nat} (henc : ∀ y,(enc y).length = sz) (hpos : 0 < sz) {xs : List α} {j : Int} {y : α} (hy : getIdx xs j = some y) : xs.flatMap enc ≠ [] := by
  obtain ⟨h0,h1,_⟩ := getIdx_some hy
  intro h
  have := flatMap_length henc xs
  rw [h] at this
  have h2 : 0 < xs.length * sz := Nat.mul_pos (by omega) hpos
  simp at this
  omega
theorem VC.fill {C : Ctx} {s : St} {α : Type} {enc : List α → List AV} {enc1 : α → List AV} {t t2 n : Nat} {U E : TypeId} {rows rows' : List (List α)} {xs : List α} {i : Int} (hk : look t s.heap = some ⟨U,false,(rows.flatMap enc).set (0 + i.toNat * 1) (.own t2 1 0 n)⟩)
    (hk2 : look t2 s.heap = some ⟨E,true,xs.flatMap enc1⟩) (htt : Nat.beq t2 t = false) (henc : ∀ y,enc y = [.rd false y.length (y.flatMap enc1)]) (henc1 : ∀ y,(enc1 y).length = 1) (hn : n = xs.length) (hi : setIdx rows i xs = some rows') :
    VC C s ⟨frzE t2 (xs.flatMap enc1) s.env,updH t ⟨U,true,rows'.flatMap enc⟩ (frzH t2 (xs.flatMap enc1) s.heap)⟩ := by
  subst hn
  have hne : t ≠ t2 := fun h => by subst h; simp at htt
  have hlen : ∀ y,(enc y).length = 1 := fun y => by rw [henc]; rfl
  obtain ⟨h0,h1,h2,h3⟩ := setIdxS hi
  have v1 := VC.freeze (C := C) hk2
  have hcells : frzL t2 (xs.flatMap enc1) ((rows.flatMap enc).set (0 + i.toNat * 1) (.own t2 1 0 xs.length)) = rows'.flatMap enc := by
    rw [frzL_eq]
    have e1 : (rows'.flatMap enc) = (rows.flatMap enc).set (0 + i.toNat * 1) (.rd false xs.length (xs.flatMap enc1)) := set_at1 hlen hi (henc xs)
    rw [e1,List.map_set]
    have e2 : frzA t2 (xs.flatMap enc1) (.own t2 1 0 xs.length) = .rd false xs.length (xs.flatMap enc1) := by
      have := frz_rd henc1 xs false
      simp only [frzA,Nat.beq_refl,cond_true]
      exact this
    have e3 : (rows.flatMap enc).map (frzA t2 (xs.flatMap enc1)) = rows.flatMap enc := by
      rw [List.map_flatMap]
      congr 1
      funext y
      rw [henc]
      rfl
    rw [e2,e3]
  have hk3 : look t (⟨frzE t2 (xs.flatMap enc1) s.env,frzH t2 (xs.flatMap enc1) s.heap⟩ : St).heap = some ⟨U,false,rows'.flatMap enc⟩ := by
    show look t (frzH t2 (xs.flatMap enc1) s.heap) = _
    rw [look_frzH,if_neg hne,hk]
    simp only [Option.map_some,frzB,cond_false]
    rw [hcells]
  have hy : ∃ y,getIdx rows' i = some y := ⟨xs,by rw [h2,getIdx,if_pos h0,List.getElem?_set_self (by omega)]⟩
  obtain ⟨y,hy⟩ := hy
  exact v1.trans (VC.relst hk3 (ne_of_idx hlen (by decide) hy) (still_all (fun y c hc => by rw [henc] at hc; simp at hc; rw [hc]; rfl) rows'))
section
variable {C : Ctx} {s : St} {d : Nat} {ty : TypeId} {p : String} {e : Array Edge} {g : Option (Nat × Bool)}
end
end Go.AB
namespace Go.AB
open Go
section
variable {C : Ctx} {s : St} {d : Nat} {ty : TypeId} {p : String} {e : Array Edge} {g : Option (Nat × Bool)}
theorem eqNil_run {P : Program} {w : World} {T E : TypeId} {x : Operand} {o : Option Addr} {n c : Nat} (hT : P.underlying T = some (.slice E)) (neg : Bool) :
    (do eqGuard (bif neg then .neq else .eql) T x (.const (.slice none 0 0)) (.slice o n c) (.slice none 0 0); binOp (bif neg then .neq else .eql) T (.slice o n c) (.slice none 0 0) : Sem Value).run P w = .ok (.bool (bif neg then !o.isNone else o.isNone)) w := by
  have key : (Op.equal T (.slice o n c) (.slice none 0 0)).run P w = .ok o.isNone w := by
    have hm : Op.equal T (.slice o n c) (.slice none 0 0) = Op.equalIn (Op.maxDepth - 1 + 1) T (.slice o n c) (.slice none 0 0) := rfl
    rw [hm]
    cases o <;> simp [Op.equalIn,run_underlying hT]
  cases neg <;> simp [eqGuard,binOp,key]
theorem AStepE.eqNil {x : Operand} {T E U : TypeId} {β : Bool} {n : Nat} {cells : List AV} (hd : d < C.N) (hx : Ev C s x (.rd β n cells)) (hT : C.P.underlying T = some (.slice E)) (neg : Bool) :
    AStepE C ⟨some d,.binOp (bif neg then .neq else .eql) T x (.const (.slice none 0 0)) U,ty,p,e,g⟩ s (fun q => s.put d (.sc (.bool (bif neg then !decide (n = 0 ∧ q = 0) else decide (n = 0 ∧ q = 0))))) :=
  .run (fun _ h => by cases h) fun ι a w r => by
    have key : ∀ o k c,a.eval x = .slice o k c → (execOp a.eval ⟨some d,.binOp (bif neg then .neq else .eql) T x (.const (.slice none 0 0)) U,ty,p,e,g⟩).run C.P w = .ok (.value (.bool (bif neg then !o.isNone else o.isNone))) w := by
      intro o k c hu
      have := eqNil_run (w := w) (x := x) (o := o) (n := k) (c := c) hT neg
      have hn : a.eval (.const (.slice none 0 0)) = .slice none 0 0 := rfl
      simp only [execOp,hu,hn]
      simp only [Sem.run_bind] at this ⊢
      rw [this]
      simp
    have h := hx ι a w r
    generalize hu : a.eval x = u at h
    cases h with
    | rdnil _ _ _ o =>
      cases o with
      | none => exact ⟨0,_,w,ι,key _ _ _ hu,by simpa using r.put hd (.sc _ _ _)⟩
      | some o => exact ⟨1,_,w,ι,key _ _ _ hu,by simpa using r.put hd (.sc _ _ _)⟩
    | rd _ _ _ _ _ b off cap vs hz hn hc hv h =>
      exact ⟨1,_,w,ι,key _ _ _ hu,by simpa using r.put hd (.sc _ _ _)⟩
end
inductive FsI (P : Program) : Nat → List Field → Prop
  | nil (i : Nat) : FsI P i []
  | cons (i : Nat) (f : Field) (l : List Field) (hn : (f.name == "_") = false) (ho : f.offset = i) (hE : P.underlying f.type = some (.int .i64)) (h : FsI P (i + 1) l) : FsI P i (f :: l)
section
variable {C : Ctx} {s : St} {d : Nat} {ty : TypeId} {p : String} {e : Array Edge} {g : Option (Nat × Bool)}
end
theorem cloneNil {α : Type} {xs r : List α} {q : Nat} (hc : decide (xs.length = 0 ∧ q = 0) = true) (h : ((apd ([] : List α) xs).bind fun z => some z) = some r) : some ([] : List α) = some r := by
  have : xs = [] := List.eq_nil_of_length_eq_zero (of_decide_eq_true hc).1
  subst this
  simp [apd] at h
  rw [← h]
end Go.AB
namespace Go.AB
open Go
structure Fam (G : Type) where
  D : Type
  P : Program
  r : Option Nat
  cx : D → Ctx
  H : G → D → Prop
  hP : ∀ d,(cx d).P = P
  hr : ∀ d,(cx d).r = r
def AWPF {G : Type} (φ : Fam G) (c : Code) (Q : Exit → G → St → Prop) (g : G) (s : St) : Prop :=
  ∀ d ι a w,φ.H g d → Rel (φ.cx d) s ι a w → c.wpIn (Fc φ.r) 0 φ.P (fun e a' w' => ∃ g' s' d' ι',φ.H g' d' ∧ Rel (φ.cx d') s' ι' a' w' ∧ Q e g' s') a w
section
variable {G : Type} {φ : Fam G} {g : G} {s s' : St} {Q : Exit → G → St → Prop} {c : Code}
theorem AWPF.of (h : ∀ d,AWP (φ.cx d) c (fun e s' => Q e g s') s) : AWPF φ c Q g s := fun d ι a w hH r => by
  have := h d ι a w r
  rw [φ.hP,φ.hr] at this
  exact wpIn_mono this fun e a' w' ⟨s',ι',r',q⟩ => ⟨g,s',d,ι',hH,r',q⟩
theorem AWPF.mono {Q' : Exit → G → St → Prop} (k : AWPF φ c Q g s) (h : ∀ e g' s',Q e g' s' → Q' e g' s') : AWPF φ c Q' g s :=
  fun d ι a w hH r => wpIn_mono (k d ι a w hH r) fun _ _ _ ⟨g',s',d',ι',hH',r',q⟩ => ⟨g',s',d',ι',hH',r',h _ _ _ q⟩
theorem AWPF.vc (h : ∀ d,VC (φ.cx d) s s') (k : AWPF φ c Q g s') : AWPF φ c Q g s :=
  fun d ι a w hH r => let ⟨ι',r'⟩ := h d ι a w r; k d ι' a w hH r'
theorem AWPF.skip (h : Q .normal g s) : AWPF φ .skip Q g s := fun d ι _ _ hH r => wpIn_skip ⟨g,s,d,ι,hH,r,h⟩
theorem AWPF.ret (h : Q .ret g s) : AWPF φ .ret Q g s := fun d ι _ _ hH r => wpIn_ret ⟨g,s,d,ι,hH,r,h⟩
theorem AWPF.exit {id : Nat} (h : Q (.exit id) g s) : AWPF φ (.exit id) Q g s := fun d ι _ _ hH r => wpIn_exit ⟨g,s,d,ι,hH,r,h⟩
def thnF (R : G → St → Prop) (Q : Exit → G → St → Prop) : Exit → G → St → Prop
  | .normal,g,s => R g s
  | e,g,s => Q e g s
def inbF (id : Nat) (Q : Exit → G → St → Prop) : Exit → G → St → Prop
  | .exit i,g,s => bif Nat.beq i id then Q .normal g s else Q (.exit i) g s
  | e,g,s => Q e g s
theorem AWPF.seq {x y : Code} (h : AWPF φ x (thnF (AWPF φ y Q) Q) g s) : AWPF φ (.seq x y) Q g s := fun d ι a w hH r =>
  wpIn_seq (wpIn_mono (h d ι a w hH r) fun e a' w' ⟨g',s',d',ι',hH',r',q⟩ => by
    cases e with
    | normal => exact q d' ι' a' w' hH' r'
    | exit id => exact ⟨g',s',d',ι',hH',r',q⟩
    | goto l => exact ⟨g',s',d',ι',hH',r',q⟩
    | ret => exact ⟨g',s',d',ι',hH',r',q⟩
    | panic ch => exact ⟨g',s',d',ι',hH',r',q⟩
    | outgrown => exact ⟨g',s',d',ι',hH',r',q⟩)
theorem AWPF.block {id : Nat} (h : AWPF φ c (inbF id Q) g s) : AWPF φ (.block id c) Q g s := fun d ι a w hH r =>
  wpIn_block (wpIn_mono (h d ι a w hH r) fun e a' w' ⟨g',s',d',ι',hH',r',q⟩ => by
    cases e with
    | exit i =>
      by_cases hi : i = id
      · subst hi; simp only [inbF,Nat.beq_refl,cond_true] at q; simp only [Exit.inBlock,if_true]; exact ⟨g',s',d',ι',hH',r',q⟩
      · have hb : Nat.beq i id = false := by rw [← Bool.not_eq_true,Nat.beq_eq]; exact hi
        simp only [inbF,hb,cond_false] at q; simp only [Exit.inBlock,if_neg hi]; exact ⟨g',s',d',ι',hH',r',q⟩
    | normal => exact ⟨g',s',d',ι',hH',r',q⟩
    | goto l => exact ⟨g',s',d',ι',hH',r',q⟩
    | ret => exact ⟨g',s',d',ι',hH',r',q⟩
    | panic ch => exact ⟨g',s',d',ι',hH',r',q⟩
    | outgrown => exact ⟨g',s',d',ι',hH',r',q⟩)
theorem AWPF.cond {x : Operand} {c1 c2 : Code} {b : Bool} (hx : ∀ d,Ev (φ.cx d) s x (.sc (.bool b)))
    (ht : b = true → AWPF φ c1 Q g s) (hf : b = false → AWPF φ c2 Q g s) : AWPF φ (.cond x c1 c2) Q g s := fun d ι a w hH r => by
  have he : a.eval x = .bool b := by
    have h := hx d ι a w r
    generalize a.eval x = u at h
    cases h; rfl
  exact wpIn_cond_split he (fun h => ht h d ι a w hH r) (fun h => hf h d ι a w hH r)
theorem AWPF.loop {σ : Type} (Γ : σ → G) (S : σ → St) (Φ : Nat → σ → Prop) (h0 : ∀ x,¬ Φ 0 x)
    (step : ∀ n x,Φ (n + 1) x → AWPF φ c (thnF (fun g' s' => ∃ x',Φ n x' ∧ g' = Γ x' ∧ ∀ d,VC (φ.cx d) s' (S x')) Q) (Γ x) (S x)) (n : Nat) (x : σ) (hx : Φ n x) : AWPF φ (.loop c) Q (Γ x) (S x) := by
  intro d ι a w hH r b k cs hro hb hr
  have key : ∀ n x d ι a w,Φ n x → φ.H (Γ x) d → Rel (φ.cx d) (S x) ι a w →
      ∃ e a' w',(∃ g' s' d' ι',φ.H g' d' ∧ Rel (φ.cx d') s' ι' a' w' ∧ Q e g' s') ∧ ArrivesIn (Machine.fenced φ.P (Fc φ.r)) φ.P (lone (b.atR a (.code c :: .inLoop c :: k)) cs w) b k cs e a' w' := by
    intro n
    induction n with
    | zero => intro x _ _ _ _ hx; exact absurd hx (h0 x)
    | succ n ih =>
      intro x d ι a w hx hH r
      obtain ⟨e,a₁,w₁,⟨g1,s1,d1,ι1,hH1,r1,q⟩,harr⟩ := step n x hx d ι a w hH r b (.inLoop c :: k) cs hro hb hr
      cases e with
      | normal =>
        obtain ⟨x',hx',rfl,hvc⟩ := q
        obtain ⟨ι2,r2⟩ := hvc d1 ι1 a₁ w₁ r1
        obtain ⟨e₂,a₂,w₂,hq₂,harr₂⟩ := ih x' d1 ι2 a₁ w₁ hx' hH1 r2
        exact ⟨e₂,a₂,w₂,hq₂,.of_steps (StepsIn.trans harr (.one (fenced_calm hb hr rfl) stepR_inLoop)) harr₂⟩
      | exit id => exact ⟨_,a₁,w₁,⟨g1,s1,d1,ι1,hH1,r1,q⟩,.pass (x := .inLoop c) rfl (fun _ _ => .inl (by simp)) harr⟩
      | goto l => exact ⟨_,a₁,w₁,⟨g1,s1,d1,ι1,hH1,r1,q⟩,.pass (x := .inLoop c) rfl (fun _ _ => .inl (by simp)) harr⟩
      | ret => exact ⟨_,a₁,w₁,⟨g1,s1,d1,ι1,hH1,r1,q⟩,.pass (x := .inLoop c) rfl (fun _ _ => .inl (by simp)) harr⟩
      | panic ch => exact ⟨_,a₁,w₁,⟨g1,s1,d1,ι1,hH1,r1,q⟩,.pass (x := .inLoop c) rfl (fun _ _ => .inl (by simp)) harr⟩
      | outgrown => exact ⟨_,a₁,w₁,⟨g1,s1,d1,ι1,hH1,r1,q⟩,.pass (x := .inLoop c) rfl (fun _ _ => .inl (by simp)) harr⟩
  obtain ⟨e,a',w',hq,harr⟩ := key n x d ι a w hx hH r
  exact ⟨e,a',w',hq,.of_steps (.one (fenced_calm hb hr rfl) stepR_loop) harr⟩
end
section
variable {R : Type} {φ : Fam (Option R)} {g : Option R} {r : R} {s s' : St} {Q : Exit → Option R → St → Prop} {c : Code}
def EndF {σ : Type} (φ : Fam (Option R)) (k : σ → Option R) (S : σ → St) (g : Option R) (s : St) : Prop := ∃ p r',k p = some r' ∧ g = some r' ∧ ∀ d,VC (φ.cx d) s (S p)
theorem AWPF.loopM {σ : Type} {body : (σ → Option R) → σ → Option R} (S : σ → St)
    (step : ∀ (nx : σ → Option R) (x : σ) (r : R),body nx x = some r → AWPF φ c (thnF (EndF φ nx S) Q) (some r) (S x))
    {n : Nat} {x : σ} (hx : Go.AB.loopM body n x = some r) : AWPF φ (.loop c) Q (some r) (S x) := by
  refine AWPF.loop (σ := σ × R) (fun y => some y.2) (fun y => S y.1) (fun n y => Go.AB.loopM body n y.1 = some y.2) (fun x h => by cases h) (fun n y h => ?_) n (x,r) hx
  refine (step (Go.AB.loopM body n) y.1 y.2 h).mono fun e g' s' q => ?_
  cases e with
  | normal =>
    obtain ⟨p,r',h1,h2,h3⟩ := q
    exact ⟨(p,r'),h1,h2,h3⟩
  | _ => exact q
theorem AWPF.join' {σ : Type} {f : σ → Option R} {gg : (σ → Option R) → Option R} (S : σ → St) (h : jn f gg = some r)
    (rest : ∀ p r,f p = some r → Q .normal (some r) (S p)) (main : ∀ k : σ → Option R,gg k = some r → AWPF φ c (thnF (EndF φ k S) Q) (some r) s) : AWPF φ c Q (some r) s := fun d ι a w hH rel =>
  wpIn_mono (main f h d ι a w hH rel) fun e a' w' ⟨g',s',d',ι',hH',r',q⟩ => by
    cases e with
    | normal =>
      obtain ⟨p,r2,hp,rfl,hv⟩ := q
      obtain ⟨ι2,r2⟩ := hv d' ι' a' w' r'
      exact ⟨_,S p,d',ι2,hH',r2,rest p _ hp⟩
    | exit id => exact ⟨g',s',d',ι',hH',r',q⟩
    | goto l => exact ⟨g',s',d',ι',hH',r',q⟩
    | ret => exact ⟨g',s',d',ι',hH',r',q⟩
    | panic ch => exact ⟨g',s',d',ι',hH',r',q⟩
    | outgrown => exact ⟨g',s',d',ι',hH',r',q⟩
def inbJF (id : Nat) (M : Option R → St → Prop) (Q : Exit → Option R → St → Prop) : Exit → Option R → St → Prop
  | .exit i,g,s => bif Nat.beq i id then M g s else Q (.exit i) g s
  | .normal,g,s => M g s
  | e,g,s => Q e g s
theorem AWPF.joinB' {id : Nat} {σ : Type} {f : σ → Option R} {gg : (σ → Option R) → Option R} (S : σ → St) (h : jn f gg = some r)
    (rest : ∀ p r,f p = some r → Q .normal (some r) (S p)) (main : ∀ k : σ → Option R,gg k = some r → AWPF φ c (inbJF id (EndF φ k S) Q) (some r) s) : AWPF φ (.block id c) Q (some r) s := fun d ι a w hH rel =>
  wpIn_block (wpIn_mono (main f h d ι a w hH rel) fun e a' w' ⟨g',s',d',ι',hH',r',q⟩ => by
    have fin : EndF φ f S g' s' → ∃ g' s' d' ι',φ.H g' d' ∧ Rel (φ.cx d') s' ι' a' w' ∧ Q .normal g' s' := by
      rintro ⟨p,r2,hp,rfl,hv⟩
      obtain ⟨ι2,r2⟩ := hv d' ι' a' w' r'
      exact ⟨_,S p,d',ι2,hH',r2,rest p _ hp⟩
    cases e with
    | normal => exact fin q
    | exit i =>
      by_cases hi : i = id
      · subst hi
        simp only [inbJF,Nat.beq_refl,cond_true] at q
        simp only [Exit.inBlock,if_true]
        exact fin q
      · have hb : Nat.beq i id = false := by rw [← Bool.not_eq_true,Nat.beq_eq]; exact hi
        simp only [inbJF,hb,cond_false] at q
        simp only [Exit.inBlock,if_neg hi]
        exact ⟨g',s',d',ι',hH',r',q⟩
    | goto l => exact ⟨g',s',d',ι',hH',r',q⟩
    | ret => exact ⟨g',s',d',ι',hH',r',q⟩
    | panic ch => exact ⟨g',s',d',ι',hH',r',q⟩
    | outgrown => exact ⟨g',s',d',ι',hH',r',q⟩)
end
end Go.AB
namespace Go.AB
open Go
structure Kept (B : Nat → Prop) (w w' : World) : Prop where
  size : w.heap.size ≤ w'.heap.size
  block : ∀ k c ty n,B k → w.heap[k]? = some (.cells c ty n) → w'.heap[k]? = w.heap[k]?
  bsz : ∀ b n,bsz w b = some n → bsz w' b = some n
theorem Kept.refl (B : Nat → Prop) (w : World) : Kept B w w := ⟨Nat.le_refl _,fun _ _ _ _ _ _ => rfl,fun _ _ h => h⟩
theorem Kept.trans {B : Nat → Prop} {w w1 w2 : World} (h : Kept B w w1) (k : Kept B w1 w2) : Kept B w w2 :=
  ⟨Nat.le_trans h.size k.size,fun b c ty n hb hc => by
    have h1 := h.block b c ty n hb hc
    rw [k.block b c ty n hb (h1.trans hc),h1],fun b n e => k.bsz _ _ (h.bsz _ _ e)⟩
theorem Kept.sub {B B' : Nat → Prop} {w w1 : World} (h : Kept B w w1) (hs : ∀ b,B' b → B b) : Kept B' w w1 := ⟨h.size,fun b c ty n hb hc => h.block b c ty n (hs b hb) hc,h.bsz⟩
theorem Trans.kept {T B : Nat → Prop} {w w' : World} (h : Trans T w w') (hB : ∀ b,b < w.heap.size → B b → ¬ T b) : Kept B w w' :=
  ⟨h.size,fun k c ty n hb hc => h.block k (Array.getElem?_eq_some_iff.1 hc).1 (hB k (Array.getElem?_eq_some_iff.1 hc).1 hb),h.bsz⟩
theorem cells_of_cell {w : World} {a : Addr} {v : Value} (h : w.cell? a = some v) : ∃ c ty n,w.heap[a.block]? = some (.cells c ty n) := by
  unfold World.cell? at h
  cases ho : w.heap[a.block]? with
  | none => simp [ho] at h
  | some o => cases o <;> simp_all
theorem Kept.cell {B : Nat → Prop} {w w' : World} (h : Kept B w w') {b o : Nat} {u : Value} (hb : B b) (hu : w.cell? ⟨b,o,none⟩ = some u) : w'.cell? ⟨b,o,none⟩ = some u := by
  obtain ⟨c,ty,n,hc⟩ := cells_of_cell hu
  rw [World.cell?_of_block (a := ⟨b,o,none⟩) (h.block b c ty n hb hc)]; exact hu
theorem bsz_putObj {w : World} {l : Nat} {o o' : Obj} (hl : w.heap[l]? = some o) (ho : o.isCells = false) (b n : Nat) (h : bsz w b = some n) : bsz (w.putObj l o') b = some n := by
  by_cases e : b = l
  · subst e
    unfold bsz at h
    rw [hl] at h
    cases o <;> first | (simp [Obj.isCells] at ho; done) | cases h
  · unfold bsz at h ⊢
    rw [World.putObj_heap_other e]; exact h
theorem Kept.putObj {B : Nat → Prop} {w : World} {l : Nat} {o o' : Obj} (hl : w.heap[l]? = some o) (ho : o.isCells = false) : Kept B w (w.putObj l o') :=
  ⟨by simp,fun k c ty n _ hc => World.putObj_heap_other (fun e => by subst e; rw [hl] at hc; cases hc; simp [Obj.isCells] at ho),bsz_putObj hl ho⟩
theorem Kept.alloc {B : Nat → Prop} (w : World) (o : Obj) : Kept B w (w.alloc o) :=
  ⟨by simp,fun k c ty n _ hc => RowKit.Below.heap_alloc w o k (Array.getElem?_eq_some_iff.1 hc).1,fun b n h => by
    unfold Go.AB.bsz at h ⊢
    cases hb : w.heap[b]? with
    | none => rw [hb] at h; cases h
    | some x => rw [RowKit.Below.heap_alloc w o b (Array.getElem?_eq_some_iff.1 hb).1]; exact h⟩
def Abide (J : (Nat → Prop) → (Nat → Prop) → World → Prop) : Prop :=
  ∀ O O' I I' W W',J O I W → Trans O W W' → (∀ b,O' b → O b ∨ W.heap.size ≤ b) → (∀ b,I' b ↔ I b ∨ (W.heap.size ≤ b ∧ b < W'.heap.size)) → J O' I' W'
def RoundOk {E : Type} (P : Program) (l : Nat) (vals : E → List AV) (xs : List E) (Zs Zb : Nat → Prop) (J : List E → (Nat → Prop) → (Nat → Prop) → World → Prop) (Jx : (Nat → Prop) → (Nat → Prop) → World → Prop) : Prop :=
  ∀ pre x rest O I W (Z : Zone) us,xs = pre ++ x :: rest → J pre O I W → (∀ b,O b → I b) → (∀ b,I b → b < W.heap.size) →
    (∀ β b,Z β b → b < W.heap.size ∧ ¬ O b ∧ (Zs b ∨ (β = true ∧ Zb b) ∨ I b)) → VRs W Z (fun _ => none) (vals x) us →
    YieldAt (Fc none) 0 P l us.toArray W fun e W' => Kept (fun b => O b ∨ Z false b ∨ Z true b) W W' ∧ ((e = .returned (.bool true) ∧ J (pre ++ [x]) O I W') ∨ (e = .returned (.bool false) ∧ Jx O I W'))
def ItSpec (P : Program) (f : FuncId) (avs : List AV) (H : List (Nat × Blk)) {E : Type} (vals : E → List AV) (xs : List E) : Prop :=
  callable P f ∧ ∀ (Zs Zb : Nat → Prop) (ι : Tags) (w : World) (vs : List Value) (N : Nat) (dfr : List Deferred) (ro : Option Nat),
    Core ⟨P,ro,N,dfr,w,Zs,Zb,ownedBy H ι,[],ι⟩ H ι w → VRs w (zone ⟨P,ro,N,dfr,w,Zs,Zb,ownedBy H ι,[],ι⟩ H ι w) ι avs vs →
    ∀ (l : Nat) (J : List E → (Nat → Prop) → (Nat → Prop) → World → Prop) (Jx : (Nat → Prop) → (Nat → Prop) → World → Prop),(∀ pre,Abide (J pre)) → Abide Jx → RoundOk P l vals xs Zs Zb J Jx →
    J [] (ownedBy H ι) (ownedBy H ι) w →
    CallsIn (Fc none) 0 P f (Value.func (.yield l) #[] #[] :: vs).toArray w fun e W' => (∃ v,e = .returned v) ∧ ∃ O' I',J xs O' I' W' ∨ Jx O' I' W'
structure ItD where
  w0 : World
  Zs : Nat → Prop
  Zb : Nat → Prop
  T0 : Nat → Prop
  I : Nat → Prop
structure ItH {E : Type} (xs : List E) (Zs Zb : Nat → Prop) (J : List E → (Nat → Prop) → (Nat → Prop) → World → Prop) (Jx : (Nat → Prop) → (Nat → Prop) → World → Prop) (g : Option (List E)) (d : ItD) : Prop where
  past : match g with
    | some rest => ∃ pre,xs = pre ++ rest ∧ J pre d.T0 d.I d.w0
    | none => Jx d.T0 d.I d.w0
  own : ∀ b,d.T0 b → d.I b
  lt : ∀ b,d.I b → b < d.w0.heap.size
  zs : ∀ b,d.Zs b → Zs b ∨ d.I b
  zb : ∀ b,d.Zb b → Zb b ∨ Zs b ∨ d.I b
def itFam {E : Type} (P : Program) (N : Nat) (ι0 : Tags) (xs : List E) (Zs Zb : Nat → Prop) (J : List E → (Nat → Prop) → (Nat → Prop) → World → Prop) (Jx : (Nat → Prop) → (Nat → Prop) → World → Prop) : Fam (Option (List E)) where
  D := ItD
  P := P
  r := none
  cx d := ⟨P,none,N,[],d.w0,d.Zs,d.Zb,d.T0,[],ι0⟩
  H g d := ItH xs Zs Zb J Jx g d
  hP _ := rfl
  hr _ := rfl
theorem ItH.now {E : Type} {P : Program} {N : Nat} {ι0 : Tags} {xs : List E} {Zs Zb : Nat → Prop} {J : List E → (Nat → Prop) → (Nat → Prop) → World → Prop} {Jx : (Nat → Prop) → (Nat → Prop) → World → Prop} {g : Option (List E)} {d : ItD}
    (h : ItH xs Zs Zb J Jx g d) (hJ : ∀ pre,Abide (J pre)) (hJx : Abide Jx) {s : St} {ι : Tags} {a : Act} {w : World} (r : Rel ((itFam P N ι0 xs Zs Zb J Jx).cx d) s ι a w) :
    ItH xs Zs Zb J Jx g ⟨w,fun b => zone ((itFam P N ι0 xs Zs Zb J Jx).cx d) s.heap ι w false b,fun b => zone ((itFam P N ι0 xs Zs Zb J Jx).cx d) s.heap ι w true b,ownedBy s.heap ι,
      fun b => d.I b ∨ (d.w0.heap.size ≤ b ∧ b < w.heap.size)⟩ := by
  have hO : ∀ b,ownedBy s.heap ι b → d.T0 b ∨ d.w0.heap.size ≤ b := by
    rintro b ⟨t,ht,e⟩
    exact (r.core.own t b ht e).symm
  have hOlt : ∀ b,ownedBy s.heap ι b → b < w.heap.size := by
    rintro b ⟨t,⟨k,hk⟩,e⟩
    have := r.core.blk t k hk
    unfold BlkR at this
    rw [e] at this
    obtain ⟨cur,q,_⟩ := this
    exact (Array.getElem?_eq_some_iff.1 q).1
  refine ⟨?_,fun b hb => ?_,fun b hb => ?_,fun b hb => ?_,fun b hb => ?_⟩
  · have hp := h.past
    cases g with
    | none => exact hJx _ _ _ _ _ _ hp r.core.tr hO (fun b => Iff.rfl)
    | some rest =>
      obtain ⟨pre,e,hj⟩ := hp
      exact ⟨pre,e,hJ pre _ _ _ _ _ _ hj r.core.tr hO (fun b => Iff.rfl)⟩
  · rcases hO b hb with h1 | h1
    · exact .inl (h.own b h1)
    · exact .inr ⟨h1,hOlt b hb⟩
  · rcases hb with hb | hb
    · exact Nat.lt_of_lt_of_le (h.lt b hb) r.core.tr.size
    · exact hb.2
  · obtain ⟨z1,_,z3⟩ := hb
    rcases z3 with ⟨h1,_⟩ | h1 | h1 | h1
    · cases h1
    · rcases h.zs b h1 with h2 | h2
      · exact .inl h2
      · exact .inr (.inl h2)
    · exact .inr (.inr ⟨h1,z1⟩)
    · exact .inr (.inl (h.own b h1))
  · obtain ⟨z1,_,z3⟩ := hb
    rcases z3 with ⟨_,h1⟩ | h1 | h1 | h1
    · rcases h.zb b h1 with h2 | h2 | h2
      · exact .inl h2
      · exact .inr (.inl h2)
      · exact .inr (.inr (.inl h2))
    · rcases h.zs b h1 with h2 | h2
      · exact .inr (.inl h2)
      · exact .inr (.inr (.inl h2))
    · exact .inr (.inr (.inr ⟨h1,z1⟩))
    · exact .inr (.inr (.inl (h.own b h1)))
theorem Rel.anew {C : Ctx} {s : St} {ι : Tags} {a : Act} {w w' : World} (r : Rel C s ι a w) (ro : Option Nat) {dfr : List Deferred} {tm : Array Value} (ht : tm = a.tmps)
    (k : Kept (fun b => ownedBy s.heap ι b ∨ zone C s.heap ι w false b ∨ zone C s.heap ι w true b) w w') :
    Rel ⟨C.P,ro,C.N,dfr,w',fun b => zone C s.heap ι w false b,fun b => zone C s.heap ι w true b,ownedBy s.heap ι,C.K,C.ι0⟩ s ι ⟨tm,dfr⟩ w' := by
  subst ht
  have hZ : ∀ β b,zone C s.heap ι w β b → zone ⟨C.P,ro,C.N,dfr,w',fun b => zone C s.heap ι w false b,fun b => zone C s.heap ι w true b,ownedBy s.heap ι,C.K,C.ι0⟩ s.heap ι w' β b := by
    intro β b hz
    refine ⟨Nat.lt_of_lt_of_le hz.1 k.size,hz.2.1,?_⟩
    cases β with
    | true => exact .inl ⟨rfl,hz⟩
    | false => exact .inr (.inl hz)
  have hcell : ∀ β b o u,zone C s.heap ι w β b → w.cell? ⟨b,o,none⟩ = some u → w'.cell? ⟨b,o,none⟩ = some u := by
    intro β b o u hz hu
    exact k.cell (by cases β with | true => exact .inr (.inr hz) | false => exact .inr (.inl hz)) hu
  refine ⟨r.size,rfl,fun d v hl => (r.env d v hl).mono k.bsz _ _ hZ hcell (fun _ _ _ h => h),⟨fun t kk hk => ?_,r.core.inj,fun t b ht e => .inr ⟨t,ht,e⟩,Trans.refl _ _⟩,r.stab⟩
  have h0 := r.core.blk t kk hk
  unfold BlkR at h0 ⊢
  cases hx : ι t with
  | none => simp only [hx] at h0 ⊢; exact h0
  | some b =>
    simp only [hx] at h0 ⊢
    obtain ⟨cur,q1,q2,q3⟩ := h0
    refine ⟨cur,?_,q2,fun i hi => ?_⟩
    · rw [k.block b _ _ _ (.inl ⟨t,⟨kk,hk⟩,hx⟩) q1]; exact q1
    · obtain ⟨u,hu,hv⟩ := q3 i hi
      refine ⟨u,hu,hv.mono k.bsz _ _ ?_ ?_ (fun _ _ _ h => h)⟩
      · cases kk.lst with
        | true => exact fun _ b hb => hZ _ _ hb
        | false => exact hZ
      · cases kk.lst with
        | true => exact fun _ b o u hb => hcell _ b o u hb
        | false => exact hcell
inductive EvV (C : Ctx) (s : St) : List Operand → List AV → Prop
  | nil : EvV C s [] []
  | cons {x : Operand} {v : AV} {xs : List Operand} {vs : List AV} (h : Ev C s x v) (hv : v.tags = []) (t : EvV C s xs vs) : EvV C s (x :: xs) (v :: vs)
theorem EvV.vrs {C : Ctx} {s : St} {xs : List Operand} {vs : List AV} (h : EvV C s xs vs) {ι : Tags} {a : Act} {w : World} (r : Rel C s ι a w) :
    VRs w (zone C s.heap ι w) (fun _ => none) vs (xs.map a.eval) := by
  induction h with
  | nil => exact ⟨rfl,fun i hi => absurd hi (by simp)⟩
  | cons h hv t ih =>
    refine ⟨by simp [ih.1],fun i hi => ?_⟩
    cases i with
    | zero =>
      refine ⟨_,rfl,(h ι a w r).mono (fun _ _ h => h) _ _ (fun _ _ h => h) (fun _ _ _ _ _ h => h) fun t b hf => ?_⟩
      have := AV.tags_of_free hf
      rw [hv] at this; cases this
    | succ i =>
      obtain ⟨u,h1,h2⟩ := ih.2 i (by simpa using hi)
      exact ⟨u,by simpa using h1,h2⟩
section
variable {E : Type} {P : Program} {N : Nat} {ι0 : Tags} {xs : List E} {Zs Zb : Nat → Prop} {J : List E → (Nat → Prop) → (Nat → Prop) → World → Prop} {Jx : (Nat → Prop) → (Nat → Prop) → World → Prop}
theorem yieldStep {l : Nat} {vals : E → List AV} (hJ : ∀ pre,Abide (J pre)) (hJx : Abide Jx) (hR : RoundOk P l vals xs Zs Zb J Jx) {dst : Nat} {y : Operand} {args : Array Operand} {ats : Array TypeId} {ty : TypeId} {p : String} {e : Array Edge} {gd : Option (Nat × Bool)} {s : St}
    {x : E} {rest : List E} (hd : dst < N) (hy : ∀ d,Ev ((itFam P N ι0 xs Zs Zb J Jx).cx d) s y (.sc (.func (.yield l) #[] #[]))) (ha : ∀ d,EvV ((itFam P N ι0 xs Zs Zb J Jx).cx d) s args.toList (vals x))
    {d : ItD} {ι : Tags} {a : Act} {w : World} (K : Act → World → Prop) (Q : Exit → Act → World → Prop) (hH : (itFam P N ι0 xs Zs Zb J Jx).H (some (x :: rest)) d) (r : Rel ((itFam P N ι0 xs Zs Zb J Jx).cx d) s ι a w)
    (hk : ∀ b d' ι' a' w',(itFam P N ι0 xs Zs Zb J Jx).H (if b = true then some rest else none) d' → Rel ((itFam P N ι0 xs Zs Zb J Jx).cx d') (s.put dst (.sc (.bool b))) ι' a' w' → K a' w') :
    (⟨some dst,.call { callee := .value y,args := args,argTypes := ats },ty,p,e,gd⟩ : Oper).wpIn (Fc none) 0 P a w K Q := by
  have hn := ItH.now hH hJ hJx r
  obtain ⟨pre,exs,hj⟩ := hn.past
  have hv := (ha d).vrs r
  obtain ⟨fn,tmps,assign,body,hrun,hround⟩ := hR pre x rest _ _ w (zone ((itFam P N ι0 xs Zs Zb J Jx).cx d) s.heap ι w) _ exs hj hn.own hn.lt (fun β b hz => by
    refine ⟨hz.1,fun ⟨t,ht,e1⟩ => hz.2.1 t ht e1,?_⟩
    cases β with
    | false =>
      rcases hn.zs b hz with h | h
      · exact .inl h
      · exact .inr (.inr h)
    | true =>
      rcases hn.zb b hz with h | h | h
      · exact .inr (.inl ⟨rfl,h⟩)
      · exact .inl h
      · exact .inr (.inr h)) hv
  refine ⟨fun _ _ => trivial,?_⟩
  rw [semAt_plain _ _ _ (fun _ h => by cases h)]
  have he : a.eval y = .func (.yield l) #[] #[] := (hy d).sc r
  have hexec : (execOp a.eval ⟨some dst,.call { callee := .value y,args := args,argTypes := ats },ty,p,e,gd⟩).run P w = .ok (.round l fn tmps assign body) w := by
    have hargs : (args.toList.map a.eval).toArray = args.map a.eval := by
      apply Array.ext'
      simp
    rw [hargs] at hrun
    simp [execOp,resolve,he,Deferred.ofValue,invoke,hrun]
  rw [hexec,Oper.uponIn_round]
  refine ⟨(fun h => by cases h),RoundIn.mono hround ?_⟩
  rintro e' W' ⟨kept,hres⟩
  have fin : ∀ b,(match (if b = true then some rest else none) with | some rest => ∃ pre,xs = pre ++ rest ∧ J pre (ownedBy s.heap ι) (fun b => d.I b ∨ (d.w0.heap.size ≤ b ∧ b < w.heap.size)) W' | none => Jx (ownedBy s.heap ι) (fun b => d.I b ∨ (d.w0.heap.size ≤ b ∧ b < w.heap.size)) W') → K (a.put (some dst) (.bool b)) W' := by
    intro b hp
    have r2 := r.anew none (dfr := []) (tm := a.tmps) rfl kept
    refine hk b ⟨W',_,_,_,fun b => d.I b ∨ (d.w0.heap.size ≤ b ∧ b < w.heap.size)⟩ ι _ _ ⟨?_,hn.own,fun b hb => Nat.lt_of_lt_of_le (hn.lt b hb) kept.size,hn.zs,hn.zb⟩ (by
      have h3 := r2.put (d := dst) (u := .bool b) hd (.sc _ _ _)
      have e1 : a = ⟨a.tmps,[]⟩ := by
        have := r.dfr
        obtain ⟨x,y⟩ := a
        simp only at this
        subst this
        rfl
      rw [e1]
      exact h3)
    cases b with
    | true => exact hp
    | false => exact hp
  rcases hres with ⟨rfl,hj'⟩ | ⟨rfl,hj'⟩
  · exact fin true ⟨pre ++ [x],by rw [exs]; simp,hj'⟩
  · exact fin false hj'
end
def ARunY {R : Type} (φ : Fam (Option R)) (A : Array Oper) (l : List Oper) (g : Option R) (s : St) (S : Bool → Option R × St) : Prop :=
  ∀ d ι a w (Q : Exit → Act → World → Prop),φ.H g d → Rel (φ.cx d) s ι a w → (∀ b d' ι' a' w',φ.H (S b).1 d' → Rel (φ.cx d') (S b).2 ι' a' w' → Q .normal a' w') → wpListIn (Fc φ.r) 0 φ.P A Q l a w
section
variable {R : Type} {φ : Fam (Option R)} {A : Array Oper} {l : List Oper} {g : Option R} {s s1 s2 : St} {S : Bool → Option R × St}
theorem ARunY.vc (h : ∀ d,VC (φ.cx d) s s1) (t : ARunY φ A l g s1 S) : ARunY φ A l g s S := fun d ι a w Q hH r hq =>
  let ⟨ι',r'⟩ := h d ι a w r; t d ι' a w Q hH r' hq
theorem ARunY.cons {dst : Option Nat} {op : Op} {ty : TypeId} {p : String} {e : Array Edge} (h : ∀ d,AStep (φ.cx d) ⟨dst,op,ty,p,e,none⟩ s s1) (t : ARunY φ A l g s1 S) :
    ARunY φ A (⟨dst,op,ty,p,e,none⟩ :: l) g s S := fun d ι a w Q hH r hq => by
  refine wpListIn_plain rfl fun K hK => ?_
  have := h d ι a w K Q r fun ι' a' w' r' => hK _ _ (t d ι' a' w' Q hH r' hq)
  rw [φ.hP,φ.hr] at this
  exact this
theorem ARunY.guardC {dst : Nat} {op : Op} {ty : TypeId} {p : String} {e : Array Edge} {j : Nat} {want c : Bool} {v : AV}
    (hw : ∀ d ι a w,Rel (φ.cx d) s ι a w → (yielded A a.tmps j == some want) = c) (hd : ∀ d,dst < (φ.cx d).N)
    (h : c = true → ∀ d,AStep (φ.cx d) ⟨some dst,op,ty,p,e,some (j,want)⟩ s (s.put dst v))
    (t : ARunY φ A l g (s.put dst (.gd c v)) S) : ARunY φ A (⟨some dst,op,ty,p,e,some (j,want)⟩ :: l) g s S := fun d ι a w Q hH r hq => by
  refine wpListIn_step fun K hK => ?_
  have hw : Region.wanted ⟨some dst,op,ty,p,e,some (j,want)⟩ (yielded A a.tmps) = c := hw d ι a w r
  rw [hw]
  by_cases hg : c = true
  · rw [if_pos hg]
    have := h hg d ι a w K Q r fun ι' a' w' r' => hK _ _ (t d ι' a' w' Q hH ?_ hq)
    · rw [φ.hP,φ.hr] at this
      exact this
    · refine ⟨r'.size,r'.dfr,?_,r'.core,r'.stab⟩
      intro d' v' hl
      by_cases ed : d' = dst
      · subst ed
        simp only [St.put,look_cons_self] at hl
        cases hl
        exact .gd _ _ _ _ _ (fun _ => r'.env d' v (by simp [St.put,look_cons_self])) (fun hf => by rw [hg] at hf; cases hf)
      · simp only [St.put,look_cons_ne ed] at hl
        exact r'.env d' v' (by simpa [St.put,look_cons_ne ed] using hl)
  · rw [if_neg hg]
    refine ⟨fun _ _ => trivial,hK _ _ (t d ι _ w Q hH (r.put (hd d) (.gd _ _ _ _ _ (fun h => absurd h hg) (fun _ => rfl))) hq)⟩
theorem ARunY.guard {dst : Nat} {op : Op} {ty : TypeId} {p : String} {e : Array Edge} {j dj : Nat} {b want : Bool} {v : AV}
    (hj : (A[j]?).bind (·.dst) = some dj) (hdj : ∀ d,dj < (φ.cx d).N) (hb : look dj s.env = some (.sc (.bool b))) (hd : ∀ d,dst < (φ.cx d).N)
    (h : (bif want then b else !b) = true → ∀ d,AStep (φ.cx d) ⟨some dst,op,ty,p,e,some (j,want)⟩ s (s.put dst v))
    (t : ARunY φ A l g (s.put dst (.gd (bif want then b else !b) v)) S) : ARunY φ A (⟨some dst,op,ty,p,e,some (j,want)⟩ :: l) g s S :=
  .guardC (fun d _ _ _ r => wanted1 r hj (hdj d) hb) hd h t
theorem ARunY.guard2 {dst : Nat} {op : Op} {ty : TypeId} {p : String} {e : Array Edge} {j dj : Nat} {a0 b want : Bool} {v : AV}
    (hj : (A[j]?).bind (·.dst) = some dj) (hdj : ∀ d,dj < (φ.cx d).N) (hb : look dj s.env = some (.gd a0 (.sc (.bool b)))) (hd : ∀ d,dst < (φ.cx d).N)
    (h : (a0 && (bif want then b else !b)) = true → ∀ d,AStep (φ.cx d) ⟨some dst,op,ty,p,e,some (j,want)⟩ s (s.put dst v))
    (t : ARunY φ A l g (s.put dst (.gd (a0 && (bif want then b else !b)) v)) S) : ARunY φ A (⟨some dst,op,ty,p,e,some (j,want)⟩ :: l) g s S :=
  .guardC (fun d _ _ _ r => wanted2 r hj (hdj d) hb) hd h t
theorem ARunY.yield {dst : Nat} {op : Op} {ty : TypeId} {p : String} {e : Array Edge} {gb : Bool → Option R} {s' : Bool → St}
    (h : ∀ d ι a w K Q,φ.H g d → Rel (φ.cx d) s ι a w → (∀ b d' ι' a' w',φ.H (gb b) d' → Rel (φ.cx d') (s.put dst (.sc (.bool b))) ι' a' w' → K a' w') → (⟨some dst,op,ty,p,e,none⟩ : Oper).wpIn (Fc φ.r) 0 φ.P a w K Q)
    (t : ∀ b d,ARun (φ.cx d) A l (s.put dst (.sc (.bool b))) (s' b)) : ARunY φ A (⟨some dst,op,ty,p,e,none⟩ :: l) g s (fun b => (gb b,s' b)) := fun d ι a w Q hH r hq => by
  refine wpListIn_plain rfl fun K hK => h d ι a w K Q hH r fun b d' ι' a' w' hH' r' => hK _ _ ?_
  have := t b d' ι' a' w' Q r' fun ι2 a2 w2 r2 => hq b d' ι2 a2 w2 hH' r2
  rw [φ.hP,φ.hr] at this
  exact this
end
def ghY {E : Type} (e b : Bool) (r rest : List E) : Option (List E) := if e = true then some r else if b = true then some rest else none
def yldM {E : Type} (e : Bool) (x : E) (m : Option (List E)) : Option (List E) := if e = true then some [] else m.map (x :: ·)
section
variable {E : Type} {φ : Fam (Option (List E))} {Q : Exit → Option (List E) → St → Prop} {s : St}
end
theorem Core.lt {C : Ctx} {H : List (Nat × Blk)} {ι : Tags} {w : World} (h : Core C H ι w) {b : Nat} (hb : ownedBy H ι b) : b < w.heap.size := by
  obtain ⟨t,⟨k,hk⟩,e⟩ := hb
  have := h.blk t k hk
  unfold BlkR at this
  rw [e] at this
  obtain ⟨cur,q,_⟩ := this
  exact (Array.getElem?_eq_some_iff.1 q).1
theorem ItSpec.of {P : Program} {f : FuncId} {fn : Func} {c : Code} {avs : List AV} {H : List (Nat × Blk)} {E : Type} {vals : E → List AV} {xs : List E} {N : Nat} (hf : P.funcs[f]? = some fn) (hnt : fn.ntmps = N) (hb : fn.body = some c)
    (hc : (fn.name == "runtime.NumGoroutine") = false) (hN : avs.length + 1 ≤ N) (hres : ∀ tmps w,∃ v,(results fn tmps).run P w = .ok v w)
    (h : ∀ l ι0 Zs Zb J Jx,(∀ pre,Abide (J pre)) → Abide Jx → RoundOk P l vals xs Zs Zb J Jx →
      AWPF (itFam P N ι0 xs Zs Zb J Jx) c (fun e g _ => (e = .ret ∨ e = .normal) ∧ (g = some [] ∨ g = none)) (some xs) ⟨enum 0 (.sc (.func (.yield l) #[] #[]) :: avs),H⟩) : ItSpec P f avs H vals xs := by
  subst hnt
  refine ⟨⟨fn,hf,by simp [hb],hc⟩,fun Zs Zb ι w vs N dfr ro hcore hvs l J Jx hJ hJx hR h0 => ?_⟩
  obtain ⟨hl,hv⟩ := hvs
  have hw := h l ι Zs Zb J Jx hJ hJx hR ⟨w,Zs,Zb,ownedBy H ι,ownedBy H ι⟩ ι { tmps := (Value.func (.yield l) #[] #[] :: vs).toArray ++ Array.replicate (fn.ntmps - (Value.func (.yield l) #[] #[] :: vs).toArray.size) undef,defers := [] } w
    ⟨⟨[],rfl,h0⟩,fun _ h => h,fun b hb => hcore.lt hb,fun _ h => .inl h,fun _ h => .inl h⟩ ?_
  · refine callsIn_of_wp hf hb trivial (wpIn_mono hw fun e a' w' ⟨g,s',d',ι',hH',r',he,hg⟩ => ?_)
    have hn := ItH.now hH' hJ hJx r'
    obtain ⟨v,hv⟩ := hres a'.tmps w'
    have hfin : ∃ O' I',J xs O' I' w' ∨ Jx O' I' w' := by
      have hp := hn.past
      rcases hg with rfl | rfl
      · obtain ⟨pre,e1,hj⟩ := hp
        rw [List.append_nil] at e1
        subst e1
        exact ⟨_,_,.inl hj⟩
      · exact ⟨_,_,.inr hp⟩
    have : bodyPost P fn (fun e w' => (∃ v,e = Ending.returned v) ∧ ∃ O' I',J xs O' I' w' ∨ Jx O' I' w') .normal a' w' := ⟨r'.dfr,v,hv,⟨v,rfl⟩,hfin⟩
    rcases he with rfl | rfl
    · exact this
    · exact this
  · refine ⟨by show _ = fn.ntmps; simp [hl]; omega,rfl,?_,⟨hcore.blk,hcore.inj,hcore.own,hcore.tr⟩,fun _ h => by cases h⟩
    intro d v hlk
    rw [look_enum] at hlk
    simp only [Nat.zero_le,if_true,Nat.sub_zero] at hlk
    have hd := (List.getElem?_eq_some_iff.1 hlk).1
    have hall : ∀ i (hi : i < (AV.sc (.func (.yield l) #[] #[]) :: avs).length),∃ u,(Value.func (.yield l) #[] #[] :: vs)[i]? = some u ∧ VR w (zone ⟨P,ro,N,dfr,w,Zs,Zb,ownedBy H ι,[],ι⟩ H ι w) ι ((AV.sc (.func (.yield l) #[] #[]) :: avs)[i]'hi) u := by
      intro i hi
      cases i with
      | zero => exact ⟨_,rfl,.sc _ _ _⟩
      | succ i =>
        obtain ⟨u,h1,h2⟩ := hv i (by simpa using hi)
        exact ⟨u,by simpa using h1,h2⟩
    obtain ⟨u,hu,hvr⟩ := hall d hd
    have he : (AV.sc (.func (.yield l) #[] #[]) :: avs)[d] = v := by rw [List.getElem?_eq_getElem hd] at hlk; exact Option.some.inj hlk
    rw [he] at hvr
    have : ((Value.func (.yield l) #[] #[] :: vs).toArray ++ Array.replicate (fn.ntmps - (Value.func (.yield l) #[] #[] :: vs).toArray.size) undef).getD d undef = u := by
      rw [Array.getD_eq_getD_getElem?,Array.getElem?_append_left (by simp only [List.length_cons] at hd; simp [hl]; omega)]
      simp [hu]
    simp only [this]
    exact hvr
end Go.AB
