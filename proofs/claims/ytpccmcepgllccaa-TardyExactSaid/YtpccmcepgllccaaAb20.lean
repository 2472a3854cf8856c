/-
  AB, part 20: from a contract to a seat's statement: what an argument reads as, and what is left behind the call.
-/
import Derived.Test.YtpccmcepgllccaaAb19
import Derived.WalkKit
import Derived.ProofKit
import Derived.OpenShut
import Derived.JoinedCond
import Derived.Carry
import Derived.SliceStrings
namespace Go.AB
open Go Go.ChangeShapes Go.WideShapes Go.ChangeAt Go.RowKit

abbrev oldZ (w : World) : Zone := fun _ b => b < w.heap.size
abbrev noT : Tags := fun _ => none

theorem law_calls {P : Program} {k : FuncId} {avs : List AV} {r : AV} (hS : Spec P k [] avs [] r []) {w : World} {vs : List Value} (hv : VRs w (oldZ w) noT avs vs) :
    Calls P k vs.toArray w fun e w' => ∃ v, e = .returned v ∧ (∃ Z ι, VR w' Z ι r v) ∧ Below w.heap.size w w' := by
  have hno : ∀ t, ¬ has t ([] : List (Nat × Blk)) := fun t ⟨k, hk⟩ => by cases hk
  have h := hS.2 (fun _ => True) (fun _ => False) noT w vs 0 [] none
    ⟨fun t k hk => (by cases hk), fun t t' b ht => absurd ht (hno t), fun t b ht => absurd ht (hno t), Trans.refl _ _⟩
    ⟨hv.1, fun i hi => by
      obtain ⟨u, hu, hr⟩ := hv.2 i hi
      exact ⟨u, hu, hr.mono (fun _ _ h => h) _ _ (fun β b hb => ⟨hb, fun t ht => absurd ht (hno t), .inr (.inl trivial)⟩) (fun _ _ _ _ _ h => h) (fun _ _ _ h => h)⟩⟩
  have h' : CallsIn Fence.wide 0 P k vs.toArray w _ := h
  refine (callsIn_wide.1 h').mono fun e w' ⟨v, ι', he, hc, hr, _⟩ => ⟨v, he, ⟨_, _, hr⟩, ?_⟩
  have tr := hc.tr
  exact ⟨tr.os, tr.tape, tr.output, tr.size, fun k hk => tr.block k hk fun ⟨t, ht, _⟩ => hno t ht⟩

/-- What arguments of a type read as. -/
def Opens (P : Program) (T : TypeId) {α : Type} (av : α → AV) (wf : α → Prop) : Prop :=
  ∀ (H : Type) (enc : TypeId × Value → H) (W : World) (base : Nat) (v : Value) (d : DataW H) (ps : List MemPlace), Value.okWide P W .any base T v → DataW.Trod enc P W 0 (fun _ => true) true T v d ps →
    ∃ y, wf y ∧ VR W (oldZ W) noT (av y) v

theorem Opens.int {P : Program} {T : TypeId} {k : IntKind} (hT : P.underlying T = some (.int k)) : Opens P T (fun n : Int => .sc (.int k n)) (fun n => (Lit.int k n).wf = true) := fun H enc W base v d ps hval hd => by
  obtain ⟨a, rfl, _, _, hw⟩ := open_int hT hval hd
  exact ⟨a, hw, .sc _ _ _⟩

theorem spot_of {P : Program} {W : World} {base : Nat} {T E : TypeId} {a : Addr} {len cap : Nat} (hT : P.underlying T = some (.slice E)) (h : Value.okWide P W .any base T (.slice (some a) len cap)) : a.spot = none := by
  simp only [Value.okWide, hT, Cell.okWide, Cell.ok] at h
  exact h.2.2.2.1

theorem cell_lt {w : World} {a : Addr} {v : Value} (h : w.cell? a = some v) : a.block < w.heap.size := by
  unfold World.cell? at h
  cases hb : w.heap[a.block]? with
  | none => rw [hb] at h; cases h
  | some o => exact (Array.getElem?_eq_some_iff.1 hb).1

theorem Opens.bytes {P : Program} {T E : TypeId} (hT : P.underlying T = some (.slice E)) (hE : P.underlying E = some (.int .u8)) (hc : P.cellsOf E = 1) :
    Opens P T (fun y : List UInt8 => .rd false y.length (y.flatMap enc8)) (fun y => y.length ≤ maxLen) := fun H enc W base v d ps hval hd => by
  obtain ⟨a0, len, cap, rfl⟩ := okWide_slice hT hval
  obtain ⟨fuel, hf⟩ := hd
  rcases open_ints hT hE hc hf with ⟨h, _⟩ | ⟨a, len', cap', zs, h, _, hlc, hcm, hzl, _, hcell, hw⟩
  · simp [Value.cells] at h
    obtain ⟨rfl, rfl, rfl⟩ := h
    exact ⟨[], Nat.zero_le _, .rdnil _ _ _ _⟩
  · simp [Value.cells] at h
    obtain ⟨rfl, rfl, rfl⟩ := h
    simp only [if_true] at hzl
    have hsp := spot_of hT hval
    obtain ⟨b, off, sp⟩ := a
    simp only at hsp
    subst hsp
    let y : List UInt8 := (zs.take len).map fun n => UInt8.ofNat n.toNat
    have hyl : y.length = len := by simp [y]; omega
    have hwf : ∀ i, i < len → 0 ≤ zs.getD i 0 ∧ zs.getD i 0 < 256 := by
      intro i hi
      have hi' : i < zs.length := by omega
      have hm : zs.getD i 0 ∈ zs := by rw [List.getD_eq_getElem?_getD, List.getElem?_eq_getElem hi']; exact List.getElem_mem hi'
      have := hw _ hm
      generalize zs.getD i 0 = z at this ⊢
      simp [Lit.wf, IntKind.min, IntKind.max, IntKind.signed, IntKind.bits] at this
      omega
    have hcell' : ∀ i, i < len → W.cell? ⟨b, off + i, none⟩ = some (.int .u8 (zs.getD i 0)) := by
      intro i hi
      have := hcell i (by omega)
      rwa [Addr.add_plain] at this
    have hcl : (y.flatMap enc8).length = len := by rw [flatMap_length enc8_len, hyl, Nat.mul_one]
    refine ⟨y, (by show y.length ≤ maxLen; rw [hyl]; omega), ?_⟩
    show VR W (oldZ W) noT (.rd false y.length (y.flatMap enc8)) _
    rw [hyl]
    refine .rd _ _ false len _ b off cap (fun i => .int .u8 (zs.getD i 0)) (fun hne => ?_) hlc hcm (fun i hi => hcell' i (hcl ▸ hi)) (fun i hi => ?_)
    · have : 0 < len := by
        rcases Nat.eq_zero_or_pos len with h0 | h0
        · exact absurd (List.length_eq_zero_iff.1 (by rw [hcl, h0])) hne
        · exact h0
      exact cell_lt (hcell' 0 this)
    · have hi' : i < len := hcl ▸ hi
      have hiy : i < y.length := by omega
      have e1 := enc8_get hiy
      rw [List.getElem?_eq_getElem hi] at e1
      have e2 : ((y[i]'hiy).toNat : Int) = zs.getD i 0 := by
        have hi2 : i < zs.length := by omega
        obtain ⟨h1, h2⟩ := hwf i hi'
        rw [List.getD_eq_getElem?_getD, List.getElem?_eq_getElem hi2] at h1 h2 ⊢
        simp only [Option.getD_some] at h1 h2 ⊢
        simp only [y, List.getElem_map, List.getElem_take]
        rw [UInt8.toNat_ofNat']
        omega
      rw [Option.some.inj e1, e2]
      exact .sc _ _ _

/-- A whole list of arguments. -/
inductive OpensL (P : Program) : List TypeId → {σ : Type} → (σ → List AV) → (σ → Prop) → Prop
  | nil : OpensL P [] (σ := Unit) (fun _ => []) (fun _ => True)
  | cons {T : TypeId} {Ts : List TypeId} {α σ : Type} {av : α → AV} {wf : α → Prop} {avs : σ → List AV} {wfs : σ → Prop} (h : Opens P T av wf) (t : OpensL P Ts avs wfs) :
      OpensL P (T :: Ts) (σ := α × σ) (fun x => av x.1 :: avs x.2) (fun x => wf x.1 ∧ wfs x.2)

theorem OpensL.open {P : Program} {Ts : List TypeId} {σ : Type} {avs : σ → List AV} {wfs : σ → Prop} (h : OpensL P Ts avs wfs) {H : Type} {enc : TypeId × Value → H} {W : World} {base : Nat} :
    ∀ {vs : List Value} {ds : List (DataW H)} {ps : List MemPlace}, (∀ (j : Nat) t v, Ts[j]? = some t → vs[j]? = some v → Value.okWide P W .any base t v) → DataW.TrodAll enc P W 0 (fun _ => true) true Ts vs ds ps →
      ∃ x, wfs x ∧ VRs W (oldZ W) noT (avs x) vs := by
  induction h with
  | nil =>
    intro vs ds ps _ ht
    obtain ⟨rfl, _, _⟩ := trodAll_nil ht
    exact ⟨(), trivial, rfl, fun i hi => absurd hi (by simp)⟩
  | cons h t ih =>
    intro vs ds ps hval ht
    obtain ⟨v0, vs0, d0, ds0, p0, q0, rfl, rfl, rfl, h0, r0⟩ := trodAll_cons ht
    obtain ⟨y, hy, hv⟩ := h H enc W base v0 d0 p0 (hval 0 _ v0 rfl rfl) h0
    obtain ⟨x, hx, hl, hvs⟩ := ih (fun j t v ht hv => hval (j + 1) t v ht hv) r0
    refine ⟨(y, x), ⟨hy, hx⟩, by simp [hl], fun i hi => ?_⟩
    cases i with
    | zero => exact ⟨v0, rfl, hv⟩
    | succ i => exact hvs i (by simpa using hi)

/-- The arguments read behind the call as they did before. -/
theorem trodAll_stays {P : Program} (hl : laidOutB P = true) {H : Type} {enc : TypeId × Value → H} {W W' : World} (hb : Below W.heap.size W W') {sp : Nat → Bool} :
    ∀ {Ts : List TypeId} {vs : List Value} {ds : List (DataW H)} {ps : List MemPlace}, Ts.all (fun t => P.readableRec t && decide (t < P.types.size)) = true → DataW.TrodAll enc P W 0 (fun _ => true) true Ts vs ds ps →
      (∀ p ∈ ps, p.block < W.heap.size) → (∀ p ∈ ps, sp p.block = true) → DataW.TrodAll enc P W' 0 sp true Ts vs ds ps
  | [], vs, ds, ps, _, ht, _, _ => by
    obtain ⟨rfl, rfl, rfl⟩ := trodAll_nil ht
    exact trodAll_mk0
  | T :: Ts, vs, ds, ps, hr, ht, hlt, hs => by
    obtain ⟨v0, vs0, d0, ds0, p0, q0, rfl, rfl, rfl, h0, r0⟩ := trodAll_cons ht
    rw [List.all_cons, Bool.and_eq_true, Bool.and_eq_true] at hr
    refine trodAll_cons_mk (WideElems.Trod_stays hl hr.1.1 (of_decide_eq_true hr.1.2) h0 (fun x hx => hb.same (hlt x (List.mem_append_left _ hx))) (fun x hx => hs x (List.mem_append_left _ hx))) ?_
    exact trodAll_stays hl hb hr.2 r0 (fun p hp => hlt p (List.mem_append_right _ hp)) (fun p hp => hs p (List.mem_append_right _ hp))

theorem trodAll_len {P : Program} {H : Type} {enc : TypeId × Value → H} {W : World} {base : Nat} {sp : Nat → Bool} {hd : Bool} : ∀ {Ts : List TypeId} {vs : List Value} {ds : List (DataW H)} {ps : List MemPlace},
    DataW.TrodAll enc P W base sp hd Ts vs ds ps → vs.length = Ts.length ∧ ds.length = Ts.length
  | [], vs, ds, ps, ht => by
    obtain ⟨rfl, rfl, _⟩ := trodAll_nil ht
    exact ⟨rfl, rfl⟩
  | T :: Ts, vs, ds, ps, ht => by
    obtain ⟨v0, vs0, d0, ds0, p0, q0, rfl, rfl, rfl, h0, r0⟩ := trodAll_cons ht
    obtain ⟨h1, h2⟩ := trodAll_len r0
    exact ⟨by simp [h1], by simp [h2]⟩
/-- FROM A CONTRACT TO A ROW's POST: a law that returns true at every argument. -/
theorem law_contract {P : Program} {fn : Func} {k : FuncId} {B : TypeId} {s : ChangeSpec} (hl : laidOutB P = true) (hts : fn.params.toList.all (fun t => P.readableRec t && decide (t < P.types.size)) = true)
    (hres : fn.resultTypes = #[B]) (hB : P.underlying B = some .bool) (hvars : s.vars = []) {σ : Type} {avs : σ → List AV} {wfs : σ → Prop} (ho : OpensL P fn.params.toList avs wfs)
    (hfn : ∀ (H : Type) (ds : List (DataW H)), ds.length = fn.params.toList.length → s.fn H ds = { results := [.lit (.bool true)], args := ds })
    (H : Type) (enc : TypeId × Value → H) (W : World) (base : Nat) (args : Array Value) (ds gs : List (DataW H)) (before : List MemPlace)
    (hS : ∀ x, wfs x → Spec P k [] (avs x) [] (.sc (.bool true)) [])
    (hval : ∀ (j : Nat) t v, fn.params[j]? = some t → args[j]? = some v → Value.okWide P W .any base t v)
    (hW : DataW.Whole enc P fn.params.toList s.vars false W args.toList ds gs before) :
    Calls P k args W fun e W' => ∃ v, e = .returned v ∧ s.post enc P fn false true false false W args v W' := by
  have hW' := hW
  obtain ⟨p, q, hA0, hV, rfl, hfz, hnd⟩ := hW
  have hA : DataW.TrodAll enc P W 0 (fun _ => true) true fn.params.toList args.toList ds p := hA0
  rw [hvars] at hV
  obtain ⟨rfl, rfl⟩ := trodVars_none hV
  obtain ⟨x, hx, hvr⟩ := ho.open (base := base) (fun j t v ht hv => hval j t v (by simpa using ht) (by simpa using hv)) hA
  have key := law_calls (hS x hx) hvr
  rw [show args.toList.toArray = args from by simp] at key
  refine key.mono fun e W' he => ?_
  obtain ⟨v, he, ⟨Z, ι, hv⟩, hb⟩ := he
  have hv' := sc_inv hv
  subst hv'
  have hfn' := hfn H ds (trodAll_len hA).2
  have hlt : ∀ x ∈ p, x.block < W.heap.size := fun x hx => by simpa using hW'.lt x (by simpa using hx)
  have hr : ∀ (b : Nat) (sp : Nat → Bool) (hd : Bool), DataW.TrodAll enc P W' b sp hd fn.resultTypes.toList ((Value.bool true).resultList fn.resultTypes.size) (s.fn H ds).results [] := fun b sp hd => by
    rw [hfn', hres]
    exact trodAll_cons_mk (shut_bool hB _) trodAll_mk0
  have ha : ∀ sp : Nat → Bool, (∀ x ∈ p, sp x.block = true) → DataW.TrodAll enc P W' 0 sp true fn.params.toList args.toList (s.fn H ds).args p := fun sp hsp => by
    rw [hfn']
    exact trodAll_stays hl hb hts hA hlt hsp
  have hvs : ∀ sp : Nat → Bool, DataW.TrodVars enc P W' sp s.vars (s.fn H ds).vars [] := fun sp => by
    rw [hvars, hfn']
    rfl
  refine ⟨_, he, ds, [], p ++ [], [], p, [], hW', ?_, ?_, ?_, hb.frame _, fun _ => ?_⟩
  · rw [List.append_nil]; exact hr _ _ _
  · rw [List.append_nil]; exact ha _ (fun x hx => by simpa using hlt x hx)
  · rw [List.append_nil]; exact hvs _
  · rw [List.append_nil]
    refine ⟨ok_one hres rfl (okWide_bool_mk hB _), _, _, ([] ++ p) ++ [], ⟨[] ++ p, [], trodAll_append (ha _ (fun _ _ => rfl)) (hr _ _ _), hvs _, rfl, fun b off hp => ?_, fun hap => ?_⟩, fun x hx _ => ?_⟩
    · have hp' : MemPlace.cell b off ∈ p := by simpa using hp
      rw [hb.frozen (p := ⟨b, off, none⟩) (hlt _ hp')]
      exact hfz b off (by simpa using hp')
    · have := hnd hap
      simpa using this
    · simpa using hx
end Go.AB
