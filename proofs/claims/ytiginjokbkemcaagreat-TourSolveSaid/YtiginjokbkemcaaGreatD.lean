import Derived.Test.YtiginjokbkemcaaGreatProg
import Derived.Test.YtiginjokbkemcaaGreatBe
import Derived.KernelRfl
set_option linter.unusedVariables false
set_option maxRecDepth 20000
namespace Go.AB
open Go Go.Proofs
abbrev rW {α : Type} (b : Bool) (l : List α) (e : α → List AV) : AV := .rd b l.length (l.flatMap e)
abbrev iW (n : Int) : AV := .sc (.int .i64 n)
abbrev bW (b : Bool) : AV := .sc (.bool b)
abbrev eW : Int → List AV := encI .i64
def lkE : List (Nat × AV) → List (Nat × AV) → List (Option AV)
  | [],_ => []
  | (d,_) :: l,e => look d e :: lkE l e
def smE : List (Nat × AV) → List (Option AV)
  | [] => []
  | (_,v) :: l => some v :: smE l
theorem SubE.of : ∀ {l e : List (Nat × AV)},lkE l e = smE l → SubE l e
  | [],_,_ => .n _
  | (d,v) :: l,e,h => by
    simp only [lkE,smE,List.cons.injEq] at h
    exact .c h.1 (SubE.of h.2)
def lkH : List (Nat × Blk) → List (Nat × Blk) → List (Option Blk)
  | [],_ => []
  | (d,_) :: l,e => look d e :: lkH l e
def smH : List (Nat × Blk) → List (Option Blk)
  | [] => []
  | (_,v) :: l => some v :: smH l
theorem SubH.of : ∀ {l e : List (Nat × Blk)},lkH l e = smH l → SubH l e
  | [],_,_ => .n _
  | (d,v) :: l,e,h => by
    simp only [lkH,smH,List.cons.injEq] at h
    exact .c h.1 (SubH.of h.2)
theorem Ev.t {C : Ctx} {s : St} {t : Nat} {v : AV} (h : look t s.env = some v) : Ev C s (.tmp t) v := .tmp h
abbrev dO (ns : List Nat) (d : Nat) (v : AV) : DOp := ⟨ns,0,0,some (d,v),[]⟩
def uI : List Nat → List Nat
  | a :: b :: t => (List.range (b - a)).map (fun x => a + x) ++ uI t
  | _ => []
def dzO : List (Nat × List Nat) → Nat → List Nat
  | [],_ => []
  | (a,l) :: t,k => bif Nat.beq a k then l else dzO t k
def fO (dl : List (Nat × List Nat)) : Nat → Nat → List DOp → Option (List DFact)
  | _,_,[] => some []
  | k,i,⟨_,_,_,some (d,v),_⟩ :: xs => (fO dl (k+1) (i+1) xs).bind fun r => some (⟨d,v,some i,dzO dl k⟩ :: r)
  | k,i,⟨_,_,_,none,_⟩ :: xs => fO dl k (i+1) xs
def fF (dl : List (Nat × List Nat)) (D : List DOp) : Nat → List (Nat × AV) → Option (List DFact)
  | k,[] => fO dl k 0 D
  | k,(d,v) :: fs => (fF dl D (k+1) fs).bind fun r => some (⟨d,v,none,dzO dl k⟩ :: r)
def kF (F : List DFact) (n : Nat) : List Nat → Option (List (Nat × AV))
  | [] => some []
  | k :: ks => match F[k]? with
    | some ⟨d,v,none,[]⟩ => (kF F n ks).bind fun r => some ((d,v) :: r)
    | some ⟨d,v,some j,[]⟩ => bif decide (j < n) then (kF F n ks).bind fun r => some ((d,v) :: r) else none
    | _ => none
def ndB : List Nat → Bool
  | [] => true
  | a :: t => !(t.any (Nat.beq a)) && ndB t
theorem ndB_ok : ∀ {l : List Nat},ndB l = true → l.Nodup
  | [],_ => List.nodup_nil
  | a :: t,h => by
    rw [ndB,Bool.and_eq_true,Bool.not_eq_true',List.any_eq_false] at h
    exact List.nodup_cons.2 ⟨fun ha => h.1 a ha (Nat.beq_refl a),ndB_ok h.2⟩
def dwB (R : List (List Nat)) (F : List DFact) (chain : List Nat) (l : List Oper) (D : List DOp) : Bool := rcheck R 0 l && (dcheck R F chain 0 l D && (ndB chain && chain.all (fun x => Nat.blt x l.length)))
theorem fO_ok {dl : List (Nat × List Nat)} {D0 : List DOp} {E : List (Nat × AV)} : ∀ (D : List DOp) (k i : Nat) (F : List DFact),fO dl k i D = some F → (∀ j,D[j]? = D0[i + j]?) → BornOk D0 F ∧ BaseOk E F
  | [],k,i,F,h,_ => by
    cases h
    exact ⟨trivial,trivial⟩
  | ⟨ns,lo,hi,none,T⟩ :: xs,k,i,F,h,hD => fO_ok xs k (i+1) F h fun j => by
    have := hD (j+1)
    rw [List.getElem?_cons_succ] at this
    rw [this,Nat.add_assoc,Nat.add_comm 1 j]
  | ⟨ns,lo,hi,some (d,v),T⟩ :: xs,k,i,F,h,hD => by
    rw [fO,Option.bind_eq_some_iff] at h
    obtain ⟨r,hr,h⟩ := h
    cases h
    obtain ⟨q1,q2⟩ := fO_ok (E := E) xs (k+1) (i+1) r hr fun j => by
      have := hD (j+1)
      rw [List.getElem?_cons_succ] at this
      rw [this,Nat.add_assoc,Nat.add_comm 1 j]
    exact ⟨⟨⟨_,(hD 0).symm,rfl⟩,q1⟩,⟨trivial,q2⟩⟩
theorem fF_ok {dl : List (Nat × List Nat)} {D : List DOp} {E : List (Nat × AV)} : ∀ (fs : List (Nat × AV)) (k : Nat) (F : List DFact),fF dl D k fs = some F → lkE fs E = smE fs → BornOk D F ∧ BaseOk E F
  | [],k,F,h,_ => fO_ok D k 0 F h fun j => by rw [Nat.zero_add]
  | (d,v) :: fs,k,F,h,hb => by
    rw [fF,Option.bind_eq_some_iff] at h
    obtain ⟨r,hr,h⟩ := h
    cases h
    simp only [lkE,smE,List.cons.injEq] at hb
    obtain ⟨q1,q2⟩ := fF_ok fs (k+1) r hr hb.2
    exact ⟨⟨trivial,q1⟩,⟨hb.1,q2⟩⟩
theorem kF_ok {F : List DFact} {n : Nat} {E : List (Nat × AV)} (h : DInv F (fun i => decide (i < n)) E) : ∀ {ks : List Nat} {e : List (Nat × AV)},kF F n ks = some e → SubE e E
  | [],e,hk => by
    cases hk
    exact .n _
  | k :: ks,e,hk => by
    unfold kF at hk
    split at hk
    · rename_i d v hf
      obtain ⟨r,hr,hk⟩ := Option.bind_eq_some_iff.1 hk
      cases hk
      exact .c (h.at hf rfl rfl) (kF_ok h hr)
    · rename_i d v j hf
      cases hj : decide (j < n) with
      | false => rw [hj] at hk; cases hk
      | true =>
        rw [hj] at hk
        obtain ⟨r,hr,hk⟩ := Option.bind_eq_some_iff.1 hk
        cases hk
        exact .c (h.at hf hj rfl) (kF_ok h hr)
    · cases hk
theorem AWP.dw {C : Ctx} {Q : Exit → St → Prop} {s : St} {e : List (Nat × AV)} {h' : List (Nat × Blk)} {id : Nat} {l : List Oper} {F : List DFact} (hm : C.P.follows .mixedOrders = true) (fs : List (Nat × AV)) (dl : List (Nat × List Nat)) (D : List DOp) (chain : List Nat) (Hs : List (List (Nat × Blk))) (R : List (List Nat)) (ks : List Nat)
    (hF : fF dl D 0 fs = some F) (hb : lkE fs s.env = smE fs) (hc : dwB (R.map uI) F chain l D = true) (h0 : Hs[0]? = some s.heap)
    (hs : DSteps C l.toArray F chain Hs 0 l D) (he : kF F l.length ks = some e) (hH : Hs[chain.length]? = some h') (hq : Q .normal ⟨e,h'⟩) : AWP C (.region id l.toArray true) Q s := by
  unfold dwB at hc
  simp only [Bool.and_eq_true] at hc
  obtain ⟨z1,z2,z3,z4⟩ := hc
  obtain ⟨q1,q2⟩ := fF_ok fs 0 F hF hb
  exact AWP.draw (s' := ⟨e,h'⟩) hm F D chain Hs (R.map uI) z1 z2 q1 q2 h0 (ndB_ok z3) (allLt z4) hs (fun E hE => kF_ok hE he) hH hq
section
variable {C : Ctx} {A : Array Oper} {F : List DFact} {chain : List Nat} {Hs : List (List (Nat × Blk))} {i d j dj lo hi : Nat} {os : List Oper} {xs : List DOp} {op : Op} {ty : TypeId} {s : String} {e : Array Edge} {ns : List Nat} {v : AV} {b : Bool} {H : List (Nat × Blk)}
theorem DSteps.p (hc : chain.findIdx? (Nat.beq i) = none) (h : ∀ E,Need (needOf F ns) E → ∀ H,AStep C ⟨some d,op,ty,s,e,none⟩ ⟨E,H⟩ (St.put ⟨E,H⟩ d v)) (t : DSteps C A F chain Hs (i + 1) os xs) : DSteps C A F chain Hs i (⟨some d,op,ty,s,e,none⟩ :: os) (⟨ns,lo,hi,some (d,v),[]⟩ :: xs) :=
  .pure hc (fun H => .put fun E q => h E q H) t
theorem DSteps.r (hc : chain.findIdx? (Nat.beq i) = none) (hH : (Hs.drop lo).take (hi + 1 - lo) = [H]) (h : ∀ E,Need (needOf F ns) E → AStep C ⟨some d,op,ty,s,e,none⟩ ⟨E,H⟩ (St.put ⟨E,H⟩ d v)) (t : DSteps C A F chain Hs (i + 1) os xs) : DSteps C A F chain Hs i (⟨some d,op,ty,s,e,none⟩ :: os) (⟨ns,lo,hi,some (d,v),[]⟩ :: xs) :=
  .read hc (by rw [hH]; exact .c (.put h) .n) t
theorem DSteps.gf (hc : chain.findIdx? (Nat.beq i) = none) (hj : (A[j]?).bind (·.dst) = some dj) (hdj : Nat.blt dj C.N = true) (hd : Nat.blt d C.N = true) (hb : (needOf F ns)[0]? = some (dj,.sc (.bool b)))
    (h : (!b) = true → ∀ E,Need (needOf F ns) E → ∀ H,AStep C ⟨some d,op,ty,s,e,some (j,false)⟩ ⟨E,H⟩ (St.put ⟨E,H⟩ d v)) (t : DSteps C A F chain Hs (i + 1) os xs) : DSteps C A F chain Hs i (⟨some d,op,ty,s,e,some (j,false)⟩ :: os) (⟨ns,lo,hi,some (d,.gd (!b) v),[]⟩ :: xs) :=
  .pure hc (fun H => .gput (want := false) hj (l1 hdj) (l1 hd) (fun E q => q.at hb) fun hg E q => h hg E q H) t
theorem DSteps.gt (hc : chain.findIdx? (Nat.beq i) = none) (hj : (A[j]?).bind (·.dst) = some dj) (hdj : Nat.blt dj C.N = true) (hd : Nat.blt d C.N = true) (hb : (needOf F ns)[0]? = some (dj,.sc (.bool b)))
    (h : b = true → ∀ E,Need (needOf F ns) E → ∀ H,AStep C ⟨some d,op,ty,s,e,some (j,true)⟩ ⟨E,H⟩ (St.put ⟨E,H⟩ d v)) (t : DSteps C A F chain Hs (i + 1) os xs) : DSteps C A F chain Hs i (⟨some d,op,ty,s,e,some (j,true)⟩ :: os) (⟨ns,lo,hi,some (d,.gd b v),[]⟩ :: xs) :=
  .pure hc (fun H => .gput (want := true) hj (l1 hdj) (l1 hd) (fun E q => q.at hb) fun hg E q => h hg E q H) t
theorem DSteps.rf (hc : chain.findIdx? (Nat.beq i) = none) (hH : (Hs.drop lo).take (hi + 1 - lo) = [H]) (hj : (A[j]?).bind (·.dst) = some dj) (hdj : Nat.blt dj C.N = true) (hd : Nat.blt d C.N = true) (hb : (needOf F ns)[0]? = some (dj,.sc (.bool b)))
    (h : (!b) = true → ∀ E,Need (needOf F ns) E → AStep C ⟨some d,op,ty,s,e,some (j,false)⟩ ⟨E,H⟩ (St.put ⟨E,H⟩ d v)) (t : DSteps C A F chain Hs (i + 1) os xs) : DSteps C A F chain Hs i (⟨some d,op,ty,s,e,some (j,false)⟩ :: os) (⟨ns,lo,hi,some (d,.gd (!b) v),[]⟩ :: xs) :=
  .read hc (by rw [hH]; exact .c (.gput (want := false) hj (l1 hdj) (l1 hd) (fun E q => q.at hb) h) .n) t
theorem DSteps.rt (hc : chain.findIdx? (Nat.beq i) = none) (hH : (Hs.drop lo).take (hi + 1 - lo) = [H]) (hj : (A[j]?).bind (·.dst) = some dj) (hdj : Nat.blt dj C.N = true) (hd : Nat.blt d C.N = true) (hb : (needOf F ns)[0]? = some (dj,.sc (.bool b)))
    (h : b = true → ∀ E,Need (needOf F ns) E → AStep C ⟨some d,op,ty,s,e,some (j,true)⟩ ⟨E,H⟩ (St.put ⟨E,H⟩ d v)) (t : DSteps C A F chain Hs (i + 1) os xs) : DSteps C A F chain Hs i (⟨some d,op,ty,s,e,some (j,true)⟩ :: os) (⟨ns,lo,hi,some (d,.gd b v),[]⟩ :: xs) :=
  .read hc (by rw [hH]; exact .c (.gput (want := true) hj (l1 hdj) (l1 hd) (fun E q => q.at hb) h) .n) t
end
theorem AWP.sr {C : Ctx} {Q : Exit → St → Prop} {s s' : St} {id : Nat} {l : List Oper} {y : Code} (h : ARun C l.toArray l s s') (k : AWP C y Q s') : AWP C (.seq (.region id l.toArray false) y) Q s := AWP.seq (AWP.rg h k)
theorem AWP.sv {C : Ctx} {Q : Exit → St → Prop} {s s' : St} {id : Nat} {l : List Oper} {y : Code} (h : ARun C l.toArray l s s') (S : St) (h1 : lkE S.env s'.env = smE S.env) (h2 : lkH S.heap s'.heap = smH S.heap) (k : AWP C y Q S) : AWP C (.seq (.region id l.toArray false) y) Q s := AWP.sr h (AWP.vc (VC.sub (SubE.of h1) (SubH.of h2)) k)
theorem zero51 : zeroT Tryz.prog 51 [.int .i64 0,.int .i64 0] := zeroT.mk (by kernel_rfl)
theorem sz3 : szOf Tryz.prog 3 1 := szOf.mk (by kernel_rfl)
theorem offs51 : offsOf Tryz.prog 51 [(0,1),(1,1)] := ⟨_,Tryz.underlying51,rfl,.cons sz3 (.cons sz3 (.nil))⟩
theorem el51 : elT Tryz.prog 51 2 16 := elT.mk (by kernel_rfl)
structure R50 where
  X : Int
  Y : Int
  deriving DecidableEq,Inhabited
def e50 (y : R50) : List AV := [.sc (.int .i64 y.X),.sc (.int .i64 y.Y)]
theorem encR50_len (y : R50) : (e50 y).length = 2 := rfl
theorem encR50_still (y : R50) : ∀ c,c ∈ e50 y → c.still = true := by simp [e50,AV.still]
theorem zero37 : zeroT Tryz.prog 37 [.slice none 0 0,.slice none 0 0] := zeroT.mk (by kernel_rfl)
theorem sz22 : szOf Tryz.prog 22 1 := szOf.mk (by kernel_rfl)
theorem sz23 : szOf Tryz.prog 23 1 := szOf.mk (by kernel_rfl)
theorem offs37 : offsOf Tryz.prog 37 [(0,1),(1,1)] := ⟨_,Tryz.underlying37,rfl,.cons sz22 (.cons sz23 (.nil))⟩
theorem sz37 : szOf Tryz.prog 37 2 := szOf.mk (by kernel_rfl)
theorem agg37 : aggT Tryz.prog 37 2 := ⟨sz37,_,Tryz.underlying37,trivial⟩
structure R71 where
  f0 : Int
  f1 : Int
  deriving DecidableEq,Inhabited
def e71 (y : R71) : List AV := [.sc (.int .i64 y.f0),.sc (.int .i64 y.f1)]
theorem encR71_len (y : R71) : (e71 y).length = 2 := rfl
structure R24 where
  Pq : (List R50)
  Bq : (List R71)
  deriving DecidableEq,Inhabited
def encR24 (y : R24) : List AV := [.rd false y.Pq.length (y.Pq.flatMap e50),.rd false y.Bq.length (y.Bq.flatMap e71)]
theorem fld37_0 : fldOf Tryz.prog 37 0 0 := ⟨_,_,Tryz.underlying37,rfl,rfl,0,sz22⟩
theorem one22 : oneT Tryz.prog 22 := ⟨_,Tryz.underlying22,trivial⟩
theorem zero3 : zeroT Tryz.prog 3 [.int .i64 0] := zeroT.mk (by kernel_rfl)
theorem one3 : oneT Tryz.prog 3 := ⟨_,Tryz.underlying3,trivial⟩
theorem fld37_1 : fldOf Tryz.prog 37 1 1 := ⟨_,_,Tryz.underlying37,rfl,rfl,0,sz23⟩
theorem one23 : oneT Tryz.prog 23 := ⟨_,Tryz.underlying23,trivial⟩
theorem sz51 : szOf Tryz.prog 51 2 := szOf.mk (by kernel_rfl)
theorem agg51 : aggT Tryz.prog 51 2 := ⟨sz51,_,Tryz.underlying51,trivial⟩
theorem fld51_0 : fldOf Tryz.prog 51 0 0 := ⟨_,_,Tryz.underlying51,rfl,rfl,0,sz3⟩
theorem fld51_1 : fldOf Tryz.prog 51 1 1 := ⟨_,_,Tryz.underlying51,rfl,rfl,0,sz3⟩
theorem sz71 : szOf Tryz.prog 71 2 := szOf.mk (by kernel_rfl)
theorem agg71 : aggT Tryz.prog 71 2 := ⟨sz71,_,Tryz.underlying71,trivial⟩
theorem el3 : elT Tryz.prog 3 1 8 := elT.mk (by kernel_rfl)
theorem zero4 : zeroT Tryz.prog 4 [.bool false] := zeroT.mk (by kernel_rfl)
theorem el4 : elT Tryz.prog 4 1 1 := elT.mk (by kernel_rfl)
theorem sz4 : szOf Tryz.prog 4 1 := szOf.mk (by kernel_rfl)
theorem zero71 : zeroT Tryz.prog 71 [.int .i64 0,.int .i64 0] := zeroT.mk (by kernel_rfl)
theorem one4 : oneT Tryz.prog 4 := ⟨_,Tryz.underlying4,trivial⟩
theorem zero28 : zeroT Tryz.prog 28 [.slice none 0 0] := zeroT.mk (by kernel_rfl)
theorem zero109 : zeroT Tryz.prog 109 [.nilFunc] := zeroT.mk (by kernel_rfl)
theorem sz109 : szOf Tryz.prog 109 1 := szOf.mk (by kernel_rfl)
theorem one109 : oneT Tryz.prog 109 := ⟨_,Tryz.underlying109,trivial⟩
theorem mixed : Tryz.prog.follows .mixedOrders = true := by kernel_rfl
theorem sz28 : szOf Tryz.prog 28 1 := szOf.mk (by kernel_rfl)
theorem one28 : oneT Tryz.prog 28 := ⟨_,Tryz.underlying28,trivial⟩
theorem sz25 : szOf Tryz.prog 25 2 := szOf.mk (by kernel_rfl)
theorem agg25 : aggT Tryz.prog 25 2 := ⟨sz25,_,Tryz.underlying25,trivial⟩
theorem fld25_0 : fldOf Tryz.prog 25 0 0 := ⟨_,_,Tryz.underlying25,rfl,rfl,0,sz22⟩
theorem fld25_1 : fldOf Tryz.prog 25 1 1 := ⟨_,_,Tryz.underlying25,rfl,rfl,0,sz23⟩
inductive K30 where
  | mk (Sp : Int) (Kd : (List K30)) (Lf : (List Int))
structure R30 where
  Sp : Int
  Kd : (List K30)
  Lf : (List Int)
instance : Inhabited R30 := ⟨⟨default,[],default⟩⟩
def K30.out : K30 → R30
  | .mk Sp Kd Lf => ⟨Sp,Kd,Lf⟩
def K30.of (r : R30) : K30 := .mk r.Sp r.Kd r.Lf
instance : Inhabited K30 := ⟨.of default⟩
theorem K30.of_out (y : K30) : K30.of y.out = y := by cases y; rfl
mutual
def encK30 : K30 → List AV
  | .mk Sp Kd Lf => [.sc (.int .i64 Sp),.rd false Kd.length (encK30s Kd),.rd false Lf.length (Lf.flatMap (encI .i64))]
def encK30s : List K30 → List AV
  | [] => []
  | y :: t => encK30 y ++ encK30s t
end
theorem encK30s_eq : ∀ l,encK30s l = l.flatMap encK30
  | [] => by rw [encK30s]; rfl
  | y :: t => by rw [encK30s,encK30s_eq t]; rfl
theorem encK30_of (y : R30) : encK30 (.of y) = [.sc (.int .i64 y.Sp),.rd false y.Kd.length (y.Kd.flatMap encK30),.rd false y.Lf.length (y.Lf.flatMap (encI .i64))] := by
  unfold K30.of
  rw [encK30,encK30s_eq]
theorem encK30_out (y : K30) : encK30 y = [.sc (.int .i64 y.out.Sp),.rd false y.out.Kd.length (y.out.Kd.flatMap encK30),.rd false y.out.Lf.length (y.out.Lf.flatMap (encI .i64))] := by
  have := encK30_of y.out
  rwa [K30.of_out] at this
theorem encK30_of1 (y : R30) : ([K30.of y] : List K30).flatMap encK30 = [.sc (.int .i64 y.Sp),.rd false y.Kd.length (y.Kd.flatMap encK30),.rd false y.Lf.length (y.Lf.flatMap (encI .i64))] := by
  rw [List.flatMap_cons,encK30_of]; rfl
theorem encK30_len (y : K30) : (encK30 y).length = 3 := by rw [encK30_out]; rfl
theorem encK30_one (y : K30) : ∀ c,c ∈ encK30 y → c.one = true := by rw [encK30_out]; simp [AV.one]
theorem encK30_still (y : K30) : ∀ c,c ∈ encK30 y → c.still = true := by rw [encK30_out]; simp [AV.still]
structure R32 where
  Order : (List Int)
  Ln : Int
  Proof : R30
  deriving Inhabited
theorem zero33 : zeroT Tryz.prog 33 [.slice none 0 0,.int .i64 0,.int .i64 0,.slice none 0 0,.slice none 0 0] := zeroT.mk (by kernel_rfl)
theorem sz31 : szOf Tryz.prog 31 3 := szOf.mk (by kernel_rfl)
theorem offs33 : offsOf Tryz.prog 33 [(0,1),(1,1),(2,3)] := ⟨_,Tryz.underlying33,rfl,.cons sz28 (.cons sz3 (.cons sz31 (.nil)))⟩
theorem sz33 : szOf Tryz.prog 33 5 := szOf.mk (by kernel_rfl)
theorem el28 : elT Tryz.prog 28 1 24 := elT.mk (by kernel_rfl)
def encL3 (y : List Int) : List AV := [.rd false y.length (y.flatMap (encI .i64))]
theorem encL3_len (y : List Int) : (encL3 y).length = 1 := rfl
theorem encL3_still (y : List Int) : ∀ c,c ∈ encL3 y → c.still = true := by simp [encL3,AV.still]
theorem zero61 : zeroT Tryz.prog 61 [.slice none 0 0] := zeroT.mk (by kernel_rfl)
theorem sz61 : szOf Tryz.prog 61 1 := szOf.mk (by kernel_rfl)
theorem zero65 : zeroT Tryz.prog 65 [.slice none 0 0,.slice none 0 0,.slice none 0 0,.int .i64 0] := zeroT.mk (by kernel_rfl)
theorem offs65 : offsOf Tryz.prog 65 [(0,2),(2,1),(3,1)] := ⟨_,Tryz.underlying65,rfl,.cons sz37 (.cons sz28 (.cons sz3 (.nil)))⟩
structure R64 where
  Gq : R24
  Path : (List Int)
  Ln : Int
  deriving DecidableEq,Inhabited
def encR64 (y : R64) : List AV := [.rd false y.Gq.Pq.length (y.Gq.Pq.flatMap e50),.rd false y.Gq.Bq.length (y.Gq.Bq.flatMap e71),.rd false y.Path.length (y.Path.flatMap (encI .i64)),.sc (.int .i64 y.Ln)]
theorem encR64_len (y : R64) : (encR64 y).length = 4 := rfl
theorem encR64_one (y : R64) : ∀ c,c ∈ encR64 y → c.one = true := by simp [encR64,AV.one]
theorem encR64_still (y : R64) : ∀ c,c ∈ encR64 y → c.still = true := by simp [encR64,AV.still]
theorem zero31 : zeroT Tryz.prog 31 [.int .i64 0,.slice none 0 0,.slice none 0 0] := zeroT.mk (by kernel_rfl)
theorem zero94 : zeroT Tryz.prog 94 [.nilFunc] := zeroT.mk (by kernel_rfl)
theorem sz94 : szOf Tryz.prog 94 1 := szOf.mk (by kernel_rfl)
theorem one94 : oneT Tryz.prog 94 := ⟨_,Tryz.underlying94,trivial⟩
theorem sz65 : szOf Tryz.prog 65 4 := szOf.mk (by kernel_rfl)
theorem agg65 : aggT Tryz.prog 65 4 := ⟨sz65,_,Tryz.underlying65,trivial⟩
theorem sz29 : szOf Tryz.prog 29 1 := szOf.mk (by kernel_rfl)
theorem offs31 : offsOf Tryz.prog 31 [(0,1),(1,1),(2,1)] := ⟨_,Tryz.underlying31,rfl,.cons sz3 (.cons sz29 (.cons sz28 (.nil)))⟩
theorem one70 : oneT Tryz.prog 70 := ⟨_,Tryz.underlying70,trivial⟩
structure R67 where
  Kind : Int
  Sp : Int
  Lf : (List Int)
  deriving DecidableEq,Inhabited
theorem zero68 : zeroT Tryz.prog 68 [.int .i64 0,.int .i64 0,.slice none 0 0] := zeroT.mk (by kernel_rfl)
theorem one61 : oneT Tryz.prog 61 := ⟨_,Tryz.underlying61,trivial⟩
theorem fld65_2 : fldOf Tryz.prog 65 2 3 := ⟨_,_,Tryz.underlying65,rfl,rfl,0,sz3⟩
theorem fld65_0 : fldOf Tryz.prog 65 0 0 := ⟨_,_,Tryz.underlying65,rfl,rfl,1,sz37⟩
theorem fld65_1 : fldOf Tryz.prog 65 1 2 := ⟨_,_,Tryz.underlying65,rfl,rfl,0,sz28⟩
theorem offs68 : offsOf Tryz.prog 68 [(0,1),(1,1),(2,1)] := ⟨_,Tryz.underlying68,rfl,.cons sz3 (.cons sz3 (.cons sz28 (.nil)))⟩
theorem sz68 : szOf Tryz.prog 68 3 := szOf.mk (by kernel_rfl)
theorem agg68 : aggT Tryz.prog 68 3 := ⟨sz68,_,Tryz.underlying68,trivial⟩
theorem fld68_0 : fldOf Tryz.prog 68 0 0 := ⟨_,_,Tryz.underlying68,rfl,rfl,0,sz3⟩
theorem fld68_2 : fldOf Tryz.prog 68 2 2 := ⟨_,_,Tryz.underlying68,rfl,rfl,0,sz28⟩
theorem agg31 : aggT Tryz.prog 31 3 := ⟨sz31,_,Tryz.underlying31,trivial⟩
theorem fld31_1 : fldOf Tryz.prog 31 1 1 := ⟨_,_,Tryz.underlying31,rfl,rfl,0,sz29⟩
theorem one29 : oneT Tryz.prog 29 := ⟨_,Tryz.underlying29,trivial⟩
theorem fld31_2 : fldOf Tryz.prog 31 2 2 := ⟨_,_,Tryz.underlying31,rfl,rfl,0,sz28⟩
theorem fld31_0 : fldOf Tryz.prog 31 0 0 := ⟨_,_,Tryz.underlying31,rfl,rfl,0,sz3⟩
theorem one66 : oneT Tryz.prog 66 := ⟨_,Tryz.underlying66,trivial⟩
theorem fld68_1 : fldOf Tryz.prog 68 1 1 := ⟨_,_,Tryz.underlying68,rfl,rfl,0,sz3⟩
theorem el65 : elT Tryz.prog 65 4 80 := elT.mk (by kernel_rfl)
theorem el31 : elT Tryz.prog 31 3 56 := elT.mk (by kernel_rfl)
theorem agg33 : aggT Tryz.prog 33 5 := ⟨sz33,_,Tryz.underlying33,trivial⟩
theorem fld33_0 : fldOf Tryz.prog 33 0 0 := ⟨_,_,Tryz.underlying33,rfl,rfl,0,sz28⟩
theorem fld33_1 : fldOf Tryz.prog 33 1 1 := ⟨_,_,Tryz.underlying33,rfl,rfl,0,sz3⟩
theorem fld33_2 : fldOf Tryz.prog 33 2 2 := ⟨_,_,Tryz.underlying33,rfl,rfl,2,sz31⟩
inductive K41 where
  | mk (Sp : Int) (Kd : (List K41)) (Lf : (List Int))
structure R41 where
  Sp : Int
  Kd : (List K41)
  Lf : (List Int)
instance : Inhabited R41 := ⟨⟨default,[],default⟩⟩
def K41.out : K41 → R41
  | .mk Sp Kd Lf => ⟨Sp,Kd,Lf⟩
def K41.of (r : R41) : K41 := .mk r.Sp r.Kd r.Lf
instance : Inhabited K41 := ⟨.of default⟩
theorem K41.of_out (y : K41) : K41.of y.out = y := by cases y; rfl
mutual
def encK41 : K41 → List AV
  | .mk Sp Kd Lf => [.sc (.int .i64 Sp),.rd false Kd.length (encK41s Kd),.rd false Lf.length (Lf.flatMap (encI .i64))]
def encK41s : List K41 → List AV
  | [] => []
  | y :: t => encK41 y ++ encK41s t
end
theorem encK41s_eq : ∀ l,encK41s l = l.flatMap encK41
  | [] => by rw [encK41s]; rfl
  | y :: t => by rw [encK41s,encK41s_eq t]; rfl
theorem encK41_of (y : R41) : encK41 (.of y) = [.sc (.int .i64 y.Sp),.rd false y.Kd.length (y.Kd.flatMap encK41),.rd false y.Lf.length (y.Lf.flatMap (encI .i64))] := by
  unfold K41.of
  rw [encK41,encK41s_eq]
theorem encK41_out (y : K41) : encK41 y = [.sc (.int .i64 y.out.Sp),.rd false y.out.Kd.length (y.out.Kd.flatMap encK41),.rd false y.out.Lf.length (y.out.Lf.flatMap (encI .i64))] := by
  have := encK41_of y.out
  rwa [K41.of_out] at this
theorem encK41_of1 (y : R41) : ([K41.of y] : List K41).flatMap encK41 = [.sc (.int .i64 y.Sp),.rd false y.Kd.length (y.Kd.flatMap encK41),.rd false y.Lf.length (y.Lf.flatMap (encI .i64))] := by
  rw [List.flatMap_cons,encK41_of]; rfl
theorem encK41_len (y : K41) : (encK41 y).length = 3 := by rw [encK41_out]; rfl
theorem encK41_one (y : K41) : ∀ c,c ∈ encK41 y → c.one = true := by rw [encK41_out]; simp [AV.one]
theorem encK41_still (y : K41) : ∀ c,c ∈ encK41 y → c.still = true := by rw [encK41_out]; simp [AV.still]
theorem zero42 : zeroT Tryz.prog 42 [.int .i64 0,.slice none 0 0,.slice none 0 0] := zeroT.mk (by kernel_rfl)
theorem sz40 : szOf Tryz.prog 40 1 := szOf.mk (by kernel_rfl)
theorem offs42 : offsOf Tryz.prog 42 [(0,1),(1,1),(2,1)] := ⟨_,Tryz.underlying42,rfl,.cons sz3 (.cons sz40 (.cons sz28 (.nil)))⟩
theorem sz42 : szOf Tryz.prog 42 3 := szOf.mk (by kernel_rfl)
theorem fld42_1 : fldOf Tryz.prog 42 1 1 := ⟨_,_,Tryz.underlying42,rfl,rfl,0,sz40⟩
theorem one40 : oneT Tryz.prog 40 := ⟨_,Tryz.underlying40,trivial⟩
theorem el42 : elT Tryz.prog 42 3 56 := elT.mk (by kernel_rfl)
theorem agg42 : aggT Tryz.prog 42 3 := ⟨sz42,_,Tryz.underlying42,trivial⟩
theorem zero45 : zeroT Tryz.prog 45 [.slice none 0 0,.int .i64 0,.int .i64 0,.slice none 0 0,.slice none 0 0] := zeroT.mk (by kernel_rfl)
theorem offs45 : offsOf Tryz.prog 45 [(0,1),(1,1),(2,3)] := ⟨_,Tryz.underlying45,rfl,.cons sz28 (.cons sz3 (.cons sz42 (.nil)))⟩
structure R44 where
  Order : (List Int)
  Ln : Int
  Proof : R41
  deriving Inhabited
theorem fld45_0 : fldOf Tryz.prog 45 0 0 := ⟨_,_,Tryz.underlying45,rfl,rfl,0,sz28⟩
theorem fld45_1 : fldOf Tryz.prog 45 1 1 := ⟨_,_,Tryz.underlying45,rfl,rfl,0,sz3⟩
theorem zero76 : zeroT Tryz.prog 76 [.slice none 0 0,.slice none 0 0,.slice none 0 0,.int .i64 0] := zeroT.mk (by kernel_rfl)
theorem offs76 : offsOf Tryz.prog 76 [(0,2),(2,1),(3,1)] := ⟨_,Tryz.underlying76,rfl,.cons sz25 (.cons sz28 (.cons sz3 (.nil)))⟩
theorem fld45_2 : fldOf Tryz.prog 45 2 2 := ⟨_,_,Tryz.underlying45,rfl,rfl,2,sz42⟩
structure R75 where
  Gq : R24
  Path : (List Int)
  Ln : Int
  deriving DecidableEq,Inhabited
def encR75 (y : R75) : List AV := [.rd false y.Gq.Pq.length (y.Gq.Pq.flatMap e50),.rd false y.Gq.Bq.length (y.Gq.Bq.flatMap e71),.rd false y.Path.length (y.Path.flatMap (encI .i64)),.sc (.int .i64 y.Ln)]
theorem encR75_len (y : R75) : (encR75 y).length = 4 := rfl
theorem encR75_one (y : R75) : ∀ c,c ∈ encR75 y → c.one = true := by simp [encR75,AV.one]
theorem encR75_still (y : R75) : ∀ c,c ∈ encR75 y → c.still = true := by simp [encR75,AV.still]
theorem sz76 : szOf Tryz.prog 76 4 := szOf.mk (by kernel_rfl)
theorem agg76 : aggT Tryz.prog 76 4 := ⟨sz76,_,Tryz.underlying76,trivial⟩
theorem fld76_0 : fldOf Tryz.prog 76 0 0 := ⟨_,_,Tryz.underlying76,rfl,rfl,1,sz25⟩
theorem fld76_1 : fldOf Tryz.prog 76 1 2 := ⟨_,_,Tryz.underlying76,rfl,rfl,0,sz28⟩
theorem fld76_2 : fldOf Tryz.prog 76 2 3 := ⟨_,_,Tryz.underlying76,rfl,rfl,0,sz3⟩
theorem fld42_0 : fldOf Tryz.prog 42 0 0 := ⟨_,_,Tryz.underlying42,rfl,rfl,0,sz3⟩
theorem fld42_2 : fldOf Tryz.prog 42 2 2 := ⟨_,_,Tryz.underlying42,rfl,rfl,0,sz28⟩
theorem zero25 : zeroT Tryz.prog 25 [.slice none 0 0,.slice none 0 0] := zeroT.mk (by kernel_rfl)
theorem el76 : elT Tryz.prog 76 4 80 := elT.mk (by kernel_rfl)
theorem zero126 : zeroT Tryz.prog 126 [.nilFunc] := zeroT.mk (by kernel_rfl)
theorem sz126 : szOf Tryz.prog 126 1 := szOf.mk (by kernel_rfl)
theorem one126 : oneT Tryz.prog 126 := ⟨_,Tryz.underlying126,trivial⟩
theorem one107 : oneT Tryz.prog 107 := ⟨_,Tryz.underlying107,trivial⟩
def m36 (n : Nat) (a0 : R50) : Option Bool :=
  (some ((((decide (a0.X < (-8000 : Int))) || (decide ((8000 : Int) < a0.X))) || (decide (a0.Y < (-8000 : Int)))) || (decide ((8000 : Int) < a0.Y))))
def m73_L1 (n : Nat) (a0 : (List R50)) (k_11 : Unit → Option Int) (nx_6 : Int → Option Int) (x_5 : Int) : Option Int :=
  (if (decide (x_5 < (a0.length : Int))) = true then ((getIdx a0 x_5).bind fun y_7 => ((m36 n (R50.mk y_7.X y_7.Y)).bind fun y_8 => (if y_8 = true then (some x_5) else (letM ((IntKind.wrap .i64 (x_5 + (1 : Int)))) fun t8_9 => (nx_6 t8_9))))) else (k_11 ()))
def m73 (n : Nat) (a0 : (List R50)) : Option Int :=
  (jn (fun p_10 : Unit => (some (-1 : Int))) fun k_11 => (loopM (m73_L1 n a0 k_11) n (0 : Int)))
def m38 (n : Nat) (a0 : (List R50)) : Option Bool :=
  ((m73 n a0).bind fun y_1 => (some (decide ((0 : Int) ≤ y_1))))
def m37 (n : Nat) (a0 : R71) (a1_b0 : Int) : Option Bool :=
  (some (((((decide (a0.f0 < (1 : Int))) || (decide (a1_b0 ≤ a0.f0))) || (decide (a0.f1 < (1 : Int)))) || (decide (a1_b0 ≤ a0.f1))) || (decide (a0.f0 = a0.f1))))
def m74_L1 (n : Nat) (a0 : (List R71)) (a1_0_b0 : Int) (k_11 : Unit → Option Int) (nx_6 : Int → Option Int) (x_5 : Int) : Option Int :=
  (if (decide (x_5 < (a0.length : Int))) = true then ((getIdx a0 x_5).bind fun y_7 => ((m37 n (R71.mk y_7.f0 y_7.f1) a1_0_b0).bind fun y_8 => (if y_8 = true then (some x_5) else (letM ((IntKind.wrap .i64 (x_5 + (1 : Int)))) fun t8_9 => (nx_6 t8_9))))) else (k_11 ()))
def m74 (n : Nat) (a0 : (List R71)) (a1_0_b0 : Int) : Option Int :=
  (jn (fun p_10 : Unit => (some (-1 : Int))) fun k_11 => (loopM (m74_L1 n a0 a1_0_b0 k_11) n (0 : Int)))
def m39 (n : Nat) (a0 : (List R71)) (a1_0_b0 : Int) : Option Bool :=
  ((m74 n a0 a1_0_b0).bind fun y_1 => (some (decide ((0 : Int) ≤ y_1))))
def m79o (n : Nat) (a0 : (List Bool)) : Option (List Bool) :=
  ((apd ([] : List Bool) a0).bind fun l1_2 => (some l1_2))
def m54_L3 (n : Nat) (p_46 : (List Bool)) (k_68 : (List Int) → Option (List Int)) (nx_61 : (Int × (List Int)) → Option (List Int)) (x_60 : (Int × (List Int))) : Option (List Int) :=
  (if (decide (x_60.1 < (p_46.length : Int))) = true then ((getIdx p_46 x_60.1).bind fun y_62 => (jn (fun p_64 : (List Int) => (letM ((IntKind.wrap .i64 (x_60.1 + (1 : Int)))) fun t50_66 => (nx_61 (t50_66,p_64)))) fun k_65 => (if (!y_62) = true then ((apd x_60.2 ([x_60.1] : List Int)).bind fun l5_63 => (k_65 l5_63)) else (k_65 x_60.2)))) else (k_68 x_60.2))
def m54_L2 (n : Nat) (a0 : R24) (p_18 : (List Bool)) (k_47 : (List Bool) → Option (List Int)) (nx_38 : (Int × (List Bool)) → Option (List Int)) (x_37 : (Int × (List Bool))) : Option (List Int) :=
  (if (decide (x_37.1 < (a0.Bq.length : Int))) = true then ((getIdx a0.Bq x_37.1).bind fun y_39 => ((getIdx p_18 y_39.f0).bind fun y_40 => (jn (fun p_43 : (List Bool) => (letM ((IntKind.wrap .i64 (x_37.1 + (1 : Int)))) fun t33_45 => (nx_38 (t33_45,p_43)))) fun k_44 => (if (!y_40) = true then ((getIdx x_37.2 y_39.f1).bind fun y_41 => ((setIdx x_37.2 y_39.f1 true).bind fun l3_42 => (k_44 l3_42))) else (k_44 x_37.2))))) else (k_47 x_37.2))
def m54_L1 (n : Nat) (a1 : (List Int)) (k_19 : (List Bool) → Option (List Int)) (nx_13 : (Int × (List Bool)) → Option (List Int)) (x_12 : (Int × (List Bool))) : Option (List Int) :=
  (if (decide (x_12.1 < (a1.length : Int))) = true then ((getIdx a1 x_12.1).bind fun y_14 => ((getIdx x_12.2 y_14).bind fun y_15 => ((setIdx x_12.2 y_14 true).bind fun l2_16 => (letM ((IntKind.wrap .i64 (x_12.1 + (1 : Int)))) fun t20_17 => (nx_13 (t20_17,l2_16)))))) else (k_19 x_12.2))
def m54 (n : Nat) (a0 : R24) (a1 : (List Int)) : Option (List Int) :=
  ((mk false (a0.Pq.length : Int) (a0.Pq.length : Int)).bind fun l2_1 => (jn (fun p_18 : (List Bool) => ((m79o n p_18).bind fun y_20 => (jn (fun p_46 : (List Bool) => (jn (fun p_67 : (List Int) => (some p_67)) fun k_68 => (loopM (m54_L3 n p_46 k_68) n ((0 : Int),([] : List Int))))) fun k_47 => (loopM (m54_L2 n a0 p_18 k_47) n ((0 : Int),y_20))))) fun k_19 => (loopM (m54_L1 n a1 k_19) n ((0 : Int),l2_1))))
def m41 (n : Nat) (a0 : (List Int)) : Option Int :=
  ((getIdx a0 (0 : Int)).bind fun y_1 => (some y_1))
def m40_L1 (n : Nat) (a0 : R24) (k_15 : (List Int) → Option ((List Int) × Bool)) (nx_10 : (List Int) → Option ((List Int) × Bool)) (x_9 : (List Int)) : Option ((List Int) × Bool) :=
  (if (decide ((x_9.length : Int) < (a0.Pq.length : Int))) = true then ((m54 n (R24.mk a0.Pq a0.Bq) x_9).bind fun y_11 => (if (decide ((y_11.length : Int) = (0 : Int))) = true then (some (([] : List Int),false)) else ((m41 n y_11).bind fun y_12 => ((apd x_9 ([y_12] : List Int)).bind fun l2_13 => (nx_10 l2_13))))) else (k_15 x_9))
def m40 (n : Nat) (a0 : R24) : Option ((List Int) × Bool) :=
  (jn (fun p_14 : (List Int) => (some (p_14,true))) fun k_15 => (loopM (m40_L1 n a0 k_15) n ([(0 : Int)] : List Int)))
def m16 (n : Nat) (a0 : R24) : Option Bool :=
  ((gdO (!(((decide ((a0.Pq.length : Int) < (1 : Int))) || (decide ((60 : Int) < (a0.Pq.length : Int)))) || (decide ((200 : Int) < (a0.Bq.length : Int))))) (m38 n a0.Pq) default).bind fun y_1 => ((gdO (!((((decide ((a0.Pq.length : Int) < (1 : Int))) || (decide ((60 : Int) < (a0.Pq.length : Int)))) || (decide ((200 : Int) < (a0.Bq.length : Int)))) || y_1)) (m39 n a0.Bq (a0.Pq.length : Int)) default).bind fun y_2 => (letM ((((((decide ((a0.Pq.length : Int) < (1 : Int))) || (decide ((60 : Int) < (a0.Pq.length : Int)))) || (decide ((200 : Int) < (a0.Bq.length : Int)))) || y_1) || y_2)) fun t35_3 => (if t35_3 = true then (some false) else ((m40 n (R24.mk a0.Pq a0.Bq)).bind fun y_4 => (some y_4.2))))))
def m94 (n : Nat) (a0 : Int) : Option Int :=
  (letM ((if (IntKind.wrap .i64 (0 - a0)) > a0 then (IntKind.wrap .i64 (0 - a0)) else a0)) fun t2_1 => (some t2_1))
def m77 (n : Nat) (a0 : R50) (a1 : R50) : Option Int :=
  ((m94 n (IntKind.wrap .i64 (a0.X - a1.X))).bind fun y_1 => ((m94 n (IntKind.wrap .i64 (a0.Y - a1.Y))).bind fun y_2 => (letM ((if y_2 > y_1 then y_2 else y_1)) fun t4_3 => (some t4_3))))
def m48 (n : Nat) (a0 : R24) (a1 : Int) (a2 : Int) : Option Int :=
  ((getIdx a0.Pq a1).bind fun y_1 => ((getIdx a0.Pq a2).bind fun y_2 => ((m77 n (R50.mk y_1.X y_1.Y) (R50.mk y_2.X y_2.Y)).bind fun y_3 => (some y_3))))
def m43 (n : Nat) (a0 : (List Int)) : Option (List Int) :=
  ((apd ([] : List Int) a0).bind fun l1_2 => (some l1_2))
def m67_L1 (n : Nat) (a0_b : (List Int)) (a0_c : Nat) (a1 : Int) (a3_b0 : (List R50)) (a3_b1 : (List R71)) (rc_0 : (List Int) → Nat → Int → Int → (List R50) → (List R71) → (List Int) → Option ((List Int) × Int × (List Int))) (y_1 : Int) (y_7 : (List Int)) (k_28 : ((List Int) × Int × (List Int)) → Option ((List Int) × Int × (List Int))) (nx_21 : (Int × (List Int) × Int × (List Int)) → Option ((List Int) × Int × (List Int))) (x_20 : (Int × (List Int) × Int × (List Int))) : Option ((List Int) × Int × (List Int)) :=
  (if (decide (x_20.1 < (y_7.length : Int))) = true then ((getIdx y_7 x_20.1).bind fun y_22 => ((apc x_20.2.1 a0_b.length ([y_22] : List Int) a0_c).bind fun l1_23 => ((m48 n (R24.mk a3_b0 a3_b1) y_1 y_22).bind fun y_24 => ((rc_0 l1_23 a0_c (IntKind.wrap .i64 (a1 + y_24)) x_20.2.2.1 a3_b0 a3_b1 x_20.2.2.2).bind fun y_25 => (letM ((IntKind.wrap .i64 (x_20.1 + (1 : Int)))) fun t49_26 => (nx_21 (t49_26,y_25.1,y_25.2.1,y_25.2.2))))))) else (k_28 (x_20.2.1,x_20.2.2.1,x_20.2.2.2)))
def m67B (n : Nat) (rc_0 : (List Int) → Nat → Int → Int → (List R50) → (List R71) → (List Int) → Option ((List Int) × Int × (List Int))) (a0_b : (List Int)) (a0_c : Nat) (a1 : Int) (a2_b0 : Int) (a3_b0 : (List R50)) (a3_b1 : (List R71)) (a4_b0 : (List Int)) : Option ((List Int) × Int × (List Int)) :=
  (if ((decide ((0 : Int) ≤ a2_b0)) && (decide (a2_b0 ≤ a1))) = true then (some (a0_b,a2_b0,a4_b0)) else ((getIdx a0_b (IntKind.wrap .i64 ((a0_b.length : Int) - (1 : Int)))).bind fun y_1 => (if (decide ((a0_b.length : Int) = (a3_b0.length : Int))) = true then ((m48 n (R24.mk a3_b0 a3_b1) y_1 (0 : Int)).bind fun y_2 => (letM ((IntKind.wrap .i64 (a1 + y_2))) fun t1_3 => (jn (fun p_5 : Int × (List Int) => (some (a0_b,p_5.1,p_5.2))) fun k_6 => (if ((decide (a2_b0 < (0 : Int))) || (decide (t1_3 < a2_b0))) = true then ((m43 n a0_b).bind fun y_4 => (k_6 (t1_3,y_4))) else (k_6 (a2_b0,a4_b0)))))) else ((m54 n (R24.mk a3_b0 a3_b1) a0_b).bind fun y_7 => (jn (fun p_27 : (List Int) × Int × (List Int) => (some (p_27.1,p_27.2.1,p_27.2.2))) fun k_28 => (loopM (m67_L1 n a0_b a0_c a1 a3_b0 a3_b1 rc_0 y_1 y_7 k_28) n ((0 : Int),a0_b,a2_b0,a4_b0)))))))
def m67F (n : Nat) : Nat → (List Int) → Nat → Int → Int → (List R50) → (List R71) → (List Int) → Option ((List Int) × Int × (List Int))
  | 0 => fun _ _ _ _ _ _ _ => none
  | f + 1 => m67B n (m67F n f)
def m67 (n : Nat) (a0_b : (List Int)) (a0_c : Nat) (a1 : Int) (a2_b0 : Int) (a3_b0 : (List R50)) (a3_b1 : (List R71)) (a4_b0 : (List Int)) : Option ((List Int) × Int × (List Int)) := m67F n n a0_b a0_c a1 a2_b0 a3_b0 a3_b1 a4_b0
def m33 (n : Nat) (a0 : R24) : Option ((List Int) × Int) :=
  ((mk (0 : Int) (0 : Int) (a0.Pq.length : Int)).bind fun l5_1 => ((apc l5_1 l5_1.length ([(0 : Int)] : List Int) (((a0.Pq.length : Int)).toNat)).bind fun l5_2 => ((m67 n l5_2 (((a0.Pq.length : Int)).toNat) (0 : Int) (-1 : Int) a0.Pq a0.Bq ([] : List Int)).bind fun y_3 => (some (y_3.2.2,y_3.2.1)))))
def m13 (n : Nat) (a0 : R24) : Option ((List Int) × Int × Int) :=
  ((m16 n (R24.mk a0.Pq a0.Bq)).bind fun y_1 => (if (!y_1) = true then (some (([] : List Int),(0 : Int),(1 : Int))) else (if (decide ((8 : Int) < (a0.Pq.length : Int))) = true then (some (([] : List Int),(0 : Int),(9 : Int))) else ((m33 n (R24.mk a0.Pq a0.Bq)).bind fun y_2 => (some (y_2.1,y_2.2,(0 : Int)))))))
def m69 (n : Nat) (a0 : Int) : Option Bool :=
  (some ((decide (a0 < (-20000 : Int))) || (decide ((20000 : Int) < a0))))
def m91_L1 (n : Nat) (a0 : (List Int)) (k_11 : Unit → Option Int) (nx_6 : Int → Option Int) (x_5 : Int) : Option Int :=
  (if (decide (x_5 < (a0.length : Int))) = true then ((getIdx a0 x_5).bind fun y_7 => ((m69 n y_7).bind fun y_8 => (if y_8 = true then (some x_5) else (letM ((IntKind.wrap .i64 (x_5 + (1 : Int)))) fun t8_9 => (nx_6 t8_9))))) else (k_11 ()))
def m91 (n : Nat) (a0 : (List Int)) : Option Int :=
  (jn (fun p_10 : Unit => (some (-1 : Int))) fun k_11 => (loopM (m91_L1 n a0 k_11) n (0 : Int)))
def m68 (n : Nat) (a0 : (List Int)) : Option Bool :=
  ((m91 n a0).bind fun y_1 => (some (decide ((0 : Int) ≤ y_1))))
def m34 (n : Nat) (a0 : R24) (a1 : (List Int)) : Option Bool :=
  ((gdO (decide ((a1.length : Int) = (a0.Pq.length : Int))) (m68 n a1) default).bind fun y_1 => (some ((decide ((a1.length : Int) = (a0.Pq.length : Int))) && (!y_1))))
def m102 (n : Nat) (a0 : Int) (a1 : Int) : Option (Int × Int) :=
  (letM ((andI .u64 a0 (4294967295 : Int))) fun t6_1 => (letM ((andI .u64 a1 (4294967295 : Int))) fun t8_2 => (letM ((IntKind.wrap .u64 (t6_1 * t8_2))) fun t10_3 => (letM ((IntKind.wrap .u64 ((IntKind.wrap .u64 ((shrI .u64 a0 (32 : Int)) * t8_2)) + (shrI .u64 t10_3 (32 : Int))))) fun t11_4 => (letM ((andI .u64 t11_4 (4294967295 : Int))) fun t12_5 => (letM ((IntKind.wrap .u64 (t12_5 + (IntKind.wrap .u64 (t6_1 * (shrI .u64 a1 (32 : Int))))))) fun t12_6 => (letM ((IntKind.wrap .u64 ((IntKind.wrap .u64 ((IntKind.wrap .u64 ((shrI .u64 a0 (32 : Int)) * (shrI .u64 a1 (32 : Int)))) + (shrI .u64 t11_4 (32 : Int)))) + (shrI .u64 t12_6 (32 : Int))))) fun t4_7 => (letM ((IntKind.wrap .u64 (a0 * a1))) fun t5_8 => (some (t4_7,t5_8))))))))))
def m95 (n : Nat) (a0 : Int) (a1 : Int) : Option (Int × Int) :=
  ((m102 n a0 a1).bind fun y_1 => (some (y_1.1,y_1.2)))
def m81o_L1 (n : Nat) (k_22 : (List Int) → Option (List Int)) (nx_16 : (Int × (List Int)) → Option (List Int)) (x_15 : (Int × (List Int))) : Option (List Int) :=
  (if (decide (x_15.1 < (x_15.2.length : Int))) = true then ((slc x_15.2 (0 : Int) x_15.1).bind fun s_17 => ((slc x_15.2 (0 : Int) x_15.1).bind fun s_18 => ((cpy x_15.2 (0 + (x_15.1).toNat * 1) (x_15.2.length - (x_15.1).toNat) s_18).bind fun l1_19 => (letM ((IntKind.wrap .i64 (x_15.1 + ((min s_18.length (x_15.2.length - (x_15.1).toNat) : Nat) : Int)))) fun t8_20 => (nx_16 (t8_20,l1_19)))))) else (k_22 x_15.2))
def m81o (n : Nat) (a0 : (List Int)) (a1 : Int) : Option (List Int) :=
  (if (decide (a1 < (0 : Int))) = true then none else ((m95 n (IntKind.wrap .u64 (a0.length : Int)) (IntKind.wrap .u64 a1)).bind fun y_1 => (if ((decide ((0 : Int) < y_1.1)) || (decide ((9223372036854775807 : Int) < y_1.2))) = true then none else ((mk (0 : Int) (IntKind.wrap .i64 y_1.2) (IntKind.wrap .i64 y_1.2)).bind fun l1_2 => ((cpy l1_2 0 l1_2.length a0).bind fun l1_3 => (letM (((min a0.length l1_2.length : Nat) : Int)) fun t8_4 => (jn (fun p_21 : (List Int) => (some p_21)) fun k_22 => (loopM (m81o_L1 n k_22) n (t8_4,l1_3)))))))))
def m72 (n : Nat) (a0 : R24) (a1 : Int) (a2 : Int) (a3 : (List Int)) : Option Int :=
  ((m48 n (R24.mk a0.Pq a0.Bq) a1 a2).bind fun y_1 => ((getIdx a3 a1).bind fun y_2 => ((getIdx a3 a2).bind fun y_3 => (letM ((IntKind.wrap .i64 ((IntKind.wrap .i64 (y_1 + y_2)) + y_3))) fun t8_4 => (some t8_4)))))
def m56_L7 (n : Nat) (a0 : R24) (a1 : (List Int)) (a2 : (List Int)) (p_174 : Int × Int) (l5_177 : (List Bool)) (k_228 : (List Int) → Option (Int × (List Int))) (nx_214 : (Int × (List Int)) → Option (Int × (List Int))) (x_213 : (Int × (List Int))) : Option (Int × (List Int)) :=
  (if (decide (x_213.1 < (a1.length : Int))) = true then ((getIdx a1 x_213.1).bind fun y_215 => ((getIdx l5_177 x_213.1).bind fun y_216 => ((gdO (!y_216) (getIdx a1 p_174.1) default).bind fun y_217 => ((gdO (!y_216) (m72 n (R24.mk a0.Pq a0.Bq) y_215 y_217 a2) default).bind fun y_218 => ((gdO (!y_216) (getIdx x_213.2 x_213.1) default).bind fun y_219 => ((gdO (!y_216) (m72 n (R24.mk a0.Pq a0.Bq) y_215 y_219 a2) default).bind fun y_220 => (jn (fun p_224 : (List Int) => (letM ((IntKind.wrap .i64 (x_213.1 + (1 : Int)))) fun t97_226 => (nx_214 (t97_226,p_224)))) fun k_225 => (if ((!y_216) && (decide (y_218 < y_220))) = true then ((getIdx a1 p_174.1).bind fun y_221 => ((getIdx x_213.2 x_213.1).bind fun y_222 => ((setIdx x_213.2 x_213.1 y_221).bind fun l4_223 => (k_225 l4_223)))) else (k_225 x_213.2))))))))) else (k_228 x_213.2))
def m56_L6 (n : Nat) (a0 : R24) (a1 : (List Int)) (a2 : (List Int)) (x_155 : Int × Int × (List Int) × (List Int) × (List Bool)) (k_175 : (Int × Int) → Option (Int × (List Int))) (nx_166 : (Int × Int × Int) → Option (Int × (List Int))) (x_165 : (Int × Int × Int)) : Option (Int × (List Int)) :=
  (if (decide (x_165.2.2 < (a1.length : Int))) = true then ((getIdx a1 x_165.2.2).bind fun y_167 => ((getIdx x_155.2.2.2.1 x_165.2.2).bind fun y_168 => ((m72 n (R24.mk a0.Pq a0.Bq) y_167 y_168 a2).bind fun y_169 => ((getIdx x_155.2.2.2.2 x_165.2.2).bind fun y_170 => (jn (fun p_171 : Int × Int => (letM ((IntKind.wrap .i64 (x_165.2.2 + (1 : Int)))) fun t41_173 => (nx_166 (p_171.1,p_171.2,t41_173)))) fun k_172 => (if ((!y_170) && ((decide (x_165.1 < (0 : Int))) || (decide (y_169 < x_165.2.1)))) = true then (k_172 (x_165.2.2,y_169)) else (k_172 (x_165.1,x_165.2.1)))))))) else (k_175 (x_165.1,x_165.2.1)))
def m56_L5 (n : Nat) (a0 : R24) (a1 : (List Int)) (a2 : (List Int)) (t36_6 : Int) (k_231 : (Int × (List Int)) → Option (Int × (List Int))) (nx_156 : (Int × Int × (List Int) × (List Int) × (List Bool)) → Option (Int × (List Int))) (x_155 : (Int × Int × (List Int) × (List Int) × (List Bool))) : Option (Int × (List Int)) :=
  (if (decide (x_155.2.1 < t36_6)) = true then (jn (fun p_174 : Int × Int => ((getIdx x_155.2.2.2.2 p_174.1).bind fun y_176 => ((setIdx x_155.2.2.2.2 p_174.1 true).bind fun l5_177 => (letM ((IntKind.wrap .i64 (x_155.1 + p_174.2))) fun t11_178 => ((getIdx a1 p_174.1).bind fun y_179 => ((getIdx x_155.2.2.1 y_179).bind fun y_180 => ((getIdx x_155.2.2.1 y_179).bind fun y_181 => ((setIdx x_155.2.2.1 y_179 (IntKind.wrap .i64 (y_180 + (1 : Int)))).bind fun l1_182 => ((getIdx x_155.2.2.2.1 p_174.1).bind fun y_183 => ((getIdx l1_182 y_183).bind fun y_184 => ((getIdx l1_182 y_183).bind fun y_185 => ((setIdx l1_182 y_183 (IntKind.wrap .i64 (y_184 + (1 : Int)))).bind fun l1_186 => (jn (fun p_227 : (List Int) => (letM ((IntKind.wrap .i64 (x_155.2.1 + (1 : Int)))) fun t37_229 => (nx_156 (t11_178,t37_229,l1_186,p_227,l5_177)))) fun k_228 => (loopM (m56_L7 n a0 a1 a2 p_174 l5_177 k_228) n ((0 : Int),x_155.2.2.2.1))))))))))))))) fun k_175 => (loopM (m56_L6 n a0 a1 a2 x_155 k_175) n ((-1 : Int),(0 : Int),(0 : Int)))) else (k_231 (x_155.1,x_155.2.2.1)))
def m56 (n : Nat) (a0 : R24) (a1 : (List Int)) (a2 : (List Int)) (a3_b : (List Int)) : Option (Int × (List Int)) :=
  (if (decide ((a1.length : Int) = (0 : Int))) = true then (some ((0 : Int),a3_b)) else ((getIdx a1 (0 : Int)).bind fun y_1 => ((m81o n ([y_1] : List Int) (a1.length : Int)).bind fun y_2 => ((mk false (a1.length : Int) (a1.length : Int)).bind fun l5_3 => ((getIdx l5_3 (0 : Int)).bind fun y_4 => ((setIdx l5_3 (0 : Int) true).bind fun l5_5 => (letM ((IntKind.wrap .i64 ((a1.length : Int) - (1 : Int)))) fun t36_6 => (jn (fun p_230 : Int × (List Int) => (some (p_230.1,p_230.2))) fun k_231 => (loopM (m56_L5 n a0 a1 a2 t36_6 k_231) n ((0 : Int),(0 : Int),a3_b,y_2,l5_5))))))))))
def m71 (n : Nat) (a0 : Int) (a1 : Int) (a2_b0 : (List R50)) (a2_b1 : (List R71)) (a3_b0 : (List Int)) : Option Int :=
  ((m72 n (R24.mk a2_b0 a2_b1) (0 : Int) a0 a3_b0).bind fun y_1 => ((m72 n (R24.mk a2_b0 a2_b1) (0 : Int) a1 a3_b0).bind fun y_2 => (letM ((IntKind.wrap .i64 (y_1 - y_2))) fun t6_3 => (some t6_3))))
def m99_L4 (n : Nat) (a1 : Int) (a3_0_b0 : (List R50)) (a3_0_b1 : (List R71)) (a3_1_b0 : (List Int)) (k_115 : (List Int) → Option (List Int)) (nx_103 : (Int × (List Int)) → Option (List Int)) (x_102 : (Int × (List Int))) : Option (List Int) :=
  ((gdO (decide (a1 < x_102.1)) (getIdx x_102.2 x_102.1) default).bind fun y_104 => ((gdO (decide (a1 < x_102.1)) (getIdx x_102.2 (IntKind.wrap .i64 (x_102.1 - (1 : Int)))) default).bind fun y_105 => ((gdO (decide (a1 < x_102.1)) (m71 n y_104 y_105 a3_0_b0 a3_0_b1 a3_1_b0) default).bind fun y_106 => (if ((decide (a1 < x_102.1)) && (decide (y_106 < (0 : Int)))) = true then ((getIdx x_102.2 (IntKind.wrap .i64 (x_102.1 - (1 : Int)))).bind fun y_107 => ((getIdx x_102.2 x_102.1).bind fun y_108 => ((getIdx x_102.2 x_102.1).bind fun y_109 => ((setIdx x_102.2 x_102.1 y_107).bind fun l1_110 => ((getIdx l1_110 (IntKind.wrap .i64 (x_102.1 - (1 : Int)))).bind fun y_111 => ((setIdx l1_110 (IntKind.wrap .i64 (x_102.1 - (1 : Int))) y_108).bind fun l1_112 => (letM ((IntKind.wrap .i64 (x_102.1 - (1 : Int)))) fun t9_113 => (nx_103 (t9_113,l1_112))))))))) else (k_115 x_102.2)))))
def m99_L3 (n : Nat) (a1 : Int) (a2 : Int) (a3_0_b0 : (List R50)) (a3_0_b1 : (List R71)) (a3_1_b0 : (List Int)) (k_118 : (List Int) → Option (List Int)) (nx_79 : (Int × (List Int)) → Option (List Int)) (x_78 : (Int × (List Int))) : Option (List Int) :=
  (if (decide (x_78.1 < a2)) = true then (jn (fun p_114 : (List Int) => (letM ((IntKind.wrap .i64 (x_78.1 + (1 : Int)))) fun t8_116 => (nx_79 (t8_116,p_114)))) fun k_115 => (loopM (m99_L4 n a1 a3_0_b0 a3_0_b1 a3_1_b0 k_115) n (x_78.1,x_78.2))) else (k_118 x_78.2))
def m99 (n : Nat) (a0_b : (List Int)) (a1 : Int) (a2 : Int) (a3_0_b0 : (List R50)) (a3_0_b1 : (List R71)) (a3_1_b0 : (List Int)) : Option (List Int) :=
  (letM ((IntKind.wrap .i64 (a1 + (1 : Int)))) fun t8_1 => (jn (fun p_117 : (List Int) => (some p_117)) fun k_118 => (loopM (m99_L3 n a1 a2 a3_0_b0 a3_0_b1 a3_1_b0 k_118) n (t8_1,a0_b))))
def m92_L4 (n : Nat) (a1 : Int) (t8_29 : Int) (k_34 : Int → Option (List Int)) (nx_32 : Int → Option (List Int)) (x_31 : Int) : Option (List Int) :=
  (if (decide (t8_29 ≤ a1)) = true then none else (k_34 x_31))
def m92_L3 (n : Nat) (a1 : Int) (k_38 : Unit → Option (List Int)) (nx_28 : Int → Option (List Int)) (x_27 : Int) : Option (List Int) :=
  (if (decide (x_27 < a1)) = true then (letM ((IntKind.wrap .i64 ((2 : Int) * x_27))) fun t8_29 => (jn (fun p_33 : Int => (letM ((IntKind.wrap .i64 (p_33 + x_27))) fun t9_35 => (if (decide (t9_35 < a1)) = true then none else (letM ((IntKind.wrap .i64 (x_27 * (2 : Int)))) fun t6_36 => (nx_28 t6_36))))) fun k_34 => (loopM (m92_L4 n a1 t8_29 k_34) n (0 : Int)))) else (k_38 ()))
def m92_L1 (n : Nat) (a1 : Int) (a2_0_b0 : (List R50)) (a2_0_b1 : (List R71)) (a2_1_b0 : (List Int)) (k_15 : (Int × (List Int)) → Option (List Int)) (nx_10 : (Int × Int × (List Int)) → Option (List Int)) (x_9 : (Int × Int × (List Int))) : Option (List Int) :=
  (if (decide (x_9.2.1 ≤ a1)) = true then ((m99 n x_9.2.2 x_9.1 x_9.2.1 a2_0_b0 a2_0_b1 a2_1_b0).bind fun y_11 => (asrt (x_9.2.2.length = y_11.length) (letM ((IntKind.wrap .i64 (x_9.2.1 + (20 : Int)))) fun t8_13 => (nx_10 (x_9.2.1,t8_13,y_11))))) else (k_15 (x_9.1,x_9.2.2)))
def m92 (n : Nat) (a0_b : (List Int)) (a1 : Int) (a2_0_b0 : (List R50)) (a2_0_b1 : (List R71)) (a2_1_b0 : (List Int)) : Option (List Int) :=
  (jn (fun p_14 : Int × (List Int) => ((m99 n p_14.2 p_14.1 a1 a2_0_b0 a2_0_b1 a2_1_b0).bind fun y_16 => (asrt (p_14.2.length = y_16.length) (jn (fun p_37 : Unit => (some y_16)) fun k_38 => (loopM (m92_L3 n a1 k_38) n (20 : Int)))))) fun k_15 => (loopM (m92_L1 n a1 a2_0_b0 a2_0_b1 a2_1_b0 k_15) n ((0 : Int),(20 : Int),a0_b)))
def m70 (n : Nat) (a0_b : (List Int)) (a1_0_b0 : (List R50)) (a1_0_b1 : (List R71)) (a1_1_b0 : (List Int)) : Option (List Int) :=
  ((m92 n a0_b (a0_b.length : Int) a1_0_b0 a1_0_b1 a1_1_b0).bind fun y_1 => (asrt (a0_b.length = y_1.length) (some y_1)))
def m35_L3 (n : Nat) (a1 : (List Int)) (k_71 : Int → Option (Int × (List Int))) (nx_66 : (Int × Int) → Option (Int × (List Int))) (x_65 : (Int × Int)) : Option (Int × (List Int)) :=
  (if (decide (x_65.2 < (a1.length : Int))) = true then ((getIdx a1 x_65.2).bind fun y_67 => (letM ((IntKind.wrap .i64 (x_65.1 - (IntKind.wrap .i64 ((2 : Int) * y_67))))) fun t10_68 => (letM ((IntKind.wrap .i64 (x_65.2 + (1 : Int)))) fun t72_69 => (nx_66 (t10_68,t72_69))))) else (k_71 x_65.1))
def m35_L2 (n : Nat) (a0 : R24) (a1 : (List Int)) (l4_20 : (List Int)) (k_56 : (Int × (List Int)) → Option (Int × (List Int))) (nx_44 : (Int × Int × (List Int)) → Option (Int × (List Int))) (x_43 : (Int × Int × (List Int))) : Option (Int × (List Int)) :=
  (if (decide (x_43.2.1 < (l4_20.length : Int))) = true then ((getIdx l4_20 x_43.2.1).bind fun y_45 => ((m72 n (R24.mk a0.Pq a0.Bq) (0 : Int) y_45 a1).bind fun y_46 => (letM ((IntKind.wrap .i64 (x_43.1 + y_46))) fun t10_47 => ((getIdx x_43.2.2 (0 : Int)).bind fun y_48 => ((getIdx x_43.2.2 (0 : Int)).bind fun y_49 => ((setIdx x_43.2.2 (0 : Int) (IntKind.wrap .i64 (y_48 + (1 : Int)))).bind fun l3_50 => ((getIdx l3_50 y_45).bind fun y_51 => ((getIdx l3_50 y_45).bind fun y_52 => ((setIdx l3_50 y_45 (IntKind.wrap .i64 (y_51 + (1 : Int)))).bind fun l3_53 => (letM ((IntKind.wrap .i64 (x_43.2.1 + (1 : Int)))) fun t48_54 => (nx_44 (t10_47,t48_54,l3_53)))))))))))) else (k_56 (x_43.1,x_43.2.2)))
def m35_L1 (n : Nat) (a0 : R24) (k_15 : (List Int) → Option (Int × (List Int))) (nx_11 : (Int × (List Int)) → Option (Int × (List Int))) (x_10 : (Int × (List Int))) : Option (Int × (List Int)) :=
  (if (decide (x_10.1 < (a0.Pq.length : Int))) = true then ((apd x_10.2 ([x_10.1] : List Int)).bind fun l4_12 => (letM ((IntKind.wrap .i64 (x_10.1 + (1 : Int)))) fun t9_13 => (nx_11 (t9_13,l4_12)))) else (k_15 x_10.2))
def m35 (n : Nat) (a0 : R24) (a1 : (List Int)) : Option (Int × (List Int)) :=
  ((mk (0 : Int) (a0.Pq.length : Int) (a0.Pq.length : Int)).bind fun l3_1 => (if (decide ((a0.Pq.length : Int) < (3 : Int))) = true then ((m48 n (R24.mk a0.Pq a0.Bq) (0 : Int) (IntKind.wrap .i64 ((a0.Pq.length : Int) - (1 : Int)))).bind fun y_2 => (letM ((IntKind.wrap .i64 ((2 : Int) * y_2))) fun t4_3 => (some (t4_3,l3_1)))) else (jn (fun p_14 : (List Int) => ((m56 n (R24.mk a0.Pq a0.Bq) p_14 a1 l3_1).bind fun y_16 => (asrt (l3_1.length = y_16.2.length) ((m70 n p_14 a0.Pq a0.Bq a1).bind fun y_18 => (asrt (p_14.length = y_18.length) ((slc y_18 (0 : Int) (2 : Int)).bind fun l4_20 => (jn (fun p_55 : Int × (List Int) => (jn (fun p_70 : Int => (some (p_70,p_55.2))) fun k_71 => (loopM (m35_L3 n a1 k_71) n (p_55.1,(0 : Int))))) fun k_56 => (loopM (m35_L2 n a0 a1 l4_20 k_56) n (y_16.1,(0 : Int),y_16.2))))))))) fun k_15 => (loopM (m35_L1 n a0 k_15) n ((1 : Int),([] : List Int))))))
def m14 (n : Nat) (a0 : R24) (a1 : (List Int)) : Option (Int × Int) :=
  ((m16 n (R24.mk a0.Pq a0.Bq)).bind fun y_1 => (if (!y_1) = true then (some ((0 : Int),(1 : Int))) else ((m34 n (R24.mk a0.Pq a0.Bq) a1).bind fun y_2 => (if (!y_2) = true then (some ((0 : Int),(2 : Int))) else ((m35 n (R24.mk a0.Pq a0.Bq) a1).bind fun y_3 => (some (y_3.1,(0 : Int))))))))
def m15_L1 (n : Nat) (a0 : (List Int)) (a1 : (List Int)) (k_11 : Unit → Option Bool) (nx_6 : Int → Option Bool) (x_5 : Int) : Option Bool :=
  (if (decide (x_5 < (a0.length : Int))) = true then ((getIdx a0 x_5).bind fun y_7 => ((getIdx a1 x_5).bind fun y_8 => (if (!decide (y_7 = y_8)) = true then (some false) else (letM ((IntKind.wrap .i64 (x_5 + (1 : Int)))) fun t5_9 => (nx_6 t5_9))))) else (k_11 ()))
def m15 (n : Nat) (a0 : (List Int)) (a1 : (List Int)) : Option Bool :=
  (if (!decide ((a0.length : Int) = (a1.length : Int))) = true then (some false) else (jn (fun p_10 : Unit => (some true)) fun k_11 => (loopM (m15_L1 n a0 a1 k_11) n (0 : Int))))
def m4 (n : Nat) : Option Bool :=
  ((m13 n (R24.mk ([(R50.mk (0 : Int) (0 : Int)),(R50.mk (4 : Int) (0 : Int)),(R50.mk (4 : Int) (3 : Int)),(R50.mk (0 : Int) (3 : Int))] : List R50) ([] : List R71))).bind fun y_1 => ((mk (0 : Int) (4 : Int) (4 : Int)).bind fun l3_2 => ((m14 n (R24.mk ([(R50.mk (0 : Int) (0 : Int)),(R50.mk (4 : Int) (0 : Int)),(R50.mk (4 : Int) (3 : Int)),(R50.mk (0 : Int) (3 : Int))] : List R50) ([] : List R71)) l3_2).bind fun y_3 => ((gdO ((((decide (y_1.2.2 = (0 : Int))) && (decide (y_3.2 = (0 : Int)))) && (decide (y_1.2.1 = (14 : Int)))) && (decide (y_3.1 = (14 : Int)))) (m15 n y_1.1 ([(0 : Int),(1 : Int),(2 : Int),(3 : Int)] : List Int)) default).bind fun y_4 => ((gdO (((((decide (y_1.2.2 = (0 : Int))) && (decide (y_3.2 = (0 : Int)))) && (decide (y_1.2.1 = (14 : Int)))) && (decide (y_3.1 = (14 : Int)))) && y_4) (m16 n (R24.mk ([(R50.mk (0 : Int) (0 : Int)),(R50.mk (4 : Int) (0 : Int)),(R50.mk (4 : Int) (3 : Int)),(R50.mk (0 : Int) (3 : Int))] : List R50) ([] : List R71))) default).bind fun y_5 => (some ((((((decide (y_1.2.2 = (0 : Int))) && (decide (y_3.2 = (0 : Int)))) && (decide (y_1.2.1 = (14 : Int)))) && (decide (y_3.1 = (14 : Int)))) && y_4) && y_5)))))))
def m5 (n : Nat) (a0 : R24) : Option Bool :=
  (some ((decide ((a0.Pq.length : Int) ≤ (9 : Int))) && (decide ((a0.Bq.length : Int) ≤ (12 : Int)))))
def m7 (n : Nat) (a0 : R24) : Option R24 :=
  (some (R24.mk a0.Pq a0.Bq))
def m47 (n : Nat) (a0 : Int) (a1 : Int) (a2_b0 : (List R50)) (a2_b1 : (List R71)) (a3_b0 : Int) : Option Int :=
  ((m48 n (R24.mk a2_b0 a2_b1) a3_b0 a0).bind fun y_1 => ((m48 n (R24.mk a2_b0 a2_b1) a3_b0 a1).bind fun y_2 => (letM ((IntKind.wrap .i64 (y_1 - y_2))) fun t6_3 => (some t6_3))))
def m46_L1 (n : Nat) (a0 : (List Int)) (a1_0_b0 : (List R50)) (a1_0_b1 : (List R71)) (a1_1_b0 : Int) (k_25 : Int → Option Int) (nx_17 : (Int × Int) → Option Int) (x_16 : (Int × Int)) : Option Int :=
  (if (decide (x_16.2 < (a0.length : Int))) = true then ((getIdx a0 x_16.2).bind fun y_18 => ((m47 n y_18 x_16.1 a1_0_b0 a1_0_b1 a1_1_b0).bind fun y_19 => (jn (fun p_21 : Int => (letM ((IntKind.wrap .i64 (x_16.2 + (1 : Int)))) fun t6_23 => (nx_17 (p_21,t6_23)))) fun k_22 => (if (decide (y_19 < (0 : Int))) = true then ((getIdx a0 x_16.2).bind fun y_20 => (k_22 y_20)) else (k_22 x_16.1))))) else (k_25 x_16.1))
def m46 (n : Nat) (a0 : (List Int)) (a1_0_b0 : (List R50)) (a1_0_b1 : (List R71)) (a1_1_b0 : Int) : Option Int :=
  (if (decide ((a0.length : Int) < (1 : Int))) = true then none else ((getIdx a0 (0 : Int)).bind fun y_1 => (jn (fun p_24 : Int => (some p_24)) fun k_25 => (loopM (m46_L1 n a0 a1_0_b0 a1_0_b1 a1_1_b0 k_25) n (y_1,(1 : Int))))))
def m45 (n : Nat) (a0 : (List Int)) (a1_b0 : (List R50)) (a1_b1 : (List R71)) (a2_b0 : Int) : Option (Int × Int) :=
  ((m46 n a0 a1_b0 a1_b1 a2_b0).bind fun y_1 => (some (y_1,y_1)))
def m40x1_L1 (n : Nat) (a0 : R24) (a1_0_b0 : (List R50)) (a1_0_b1 : (List R71)) (k_15 : (Int × (List Int)) → Option ((List Int) × Bool × Int)) (nx_10 : (Int × (List Int)) → Option ((List Int) × Bool × Int)) (x_9 : (Int × (List Int))) : Option ((List Int) × Bool × Int) :=
  (if (decide ((x_9.2.length : Int) < (a0.Pq.length : Int))) = true then ((m54 n (R24.mk a0.Pq a0.Bq) x_9.2).bind fun y_11 => (if (decide ((y_11.length : Int) = (0 : Int))) = true then (some (([] : List Int),false,x_9.1)) else ((m45 n y_11 a1_0_b0 a1_0_b1 x_9.1).bind fun y_12 => ((apd x_9.2 ([y_12.1] : List Int)).bind fun l4_13 => (nx_10 (y_12.2,l4_13)))))) else (k_15 (x_9.1,x_9.2)))
def m40x1 (n : Nat) (a0 : R24) (a1_0_b0 : (List R50)) (a1_0_b1 : (List R71)) (a1_1_b0 : Int) : Option ((List Int) × Bool × Int) :=
  (jn (fun p_14 : Int × (List Int) => (some (p_14.2,true,p_14.1))) fun k_15 => (loopM (m40x1_L1 n a0 a1_0_b0 a1_0_b1 k_15) n (a1_1_b0,([(0 : Int)] : List Int))))
def m18 (n : Nat) (a0 : R24) : Option (List Int) :=
  ((m40x1 n (R24.mk a0.Pq a0.Bq) a0.Pq a0.Bq (0 : Int)).bind fun y_1 => (some y_1.1))
def m93 (n : Nat) (a0 : R71) (a1_b0_b : (List Int)) (a2_b0 : (List Int)) : Option Bool :=
  ((getIdx a1_b0_b a0.f1).bind fun y_1 => ((gdO (decide (y_1 < (a2_b0.length : Int))) (getIdx a1_b0_b a0.f0) default).bind fun y_2 => ((gdO (decide (y_1 < (a2_b0.length : Int))) (getIdx a1_b0_b a0.f1) default).bind fun y_3 => (some ((decide (y_1 < (a2_b0.length : Int))) && (decide (y_3 ≤ y_2)))))))
def m74x1_L1 (n : Nat) (a0 : (List R71)) (a1_0_b0_b : (List Int)) (a1_1_b0 : (List Int)) (k_11 : Unit → Option Int) (nx_6 : Int → Option Int) (x_5 : Int) : Option Int :=
  (if (decide (x_5 < (a0.length : Int))) = true then ((getIdx a0 x_5).bind fun y_7 => ((m93 n (R71.mk y_7.f0 y_7.f1) a1_0_b0_b a1_1_b0).bind fun y_8 => (if y_8 = true then (some x_5) else (letM ((IntKind.wrap .i64 (x_5 + (1 : Int)))) fun t8_9 => (nx_6 t8_9))))) else (k_11 ()))
def m74x1 (n : Nat) (a0 : (List R71)) (a1_0_b0_b : (List Int)) (a1_1_b0 : (List Int)) : Option Int :=
  (jn (fun p_10 : Unit => (some (-1 : Int))) fun k_11 => (loopM (m74x1_L1 n a0 a1_0_b0_b a1_1_b0 k_11) n (0 : Int)))
def m39x1 (n : Nat) (a0 : (List R71)) (a1_0_b0_b : (List Int)) (a1_1_b0 : (List Int)) : Option Bool :=
  ((m74x1 n a0 a1_0_b0_b a1_1_b0).bind fun y_1 => (some (decide ((0 : Int) ≤ y_1))))
def m75_L1 (n : Nat) (a1 : (List Int)) (k_22 : (List Int) → Option Bool) (nx_15 : (Int × (List Int)) → Option Bool) (x_14 : (Int × (List Int))) : Option Bool :=
  (if (decide (x_14.1 < (a1.length : Int))) = true then ((getIdx a1 x_14.1).bind fun y_16 => ((gdO (!((decide (y_16 < (0 : Int))) || (decide ((x_14.2.length : Int) ≤ y_16)))) (getIdx x_14.2 y_16) default).bind fun y_17 => (if (((decide (y_16 < (0 : Int))) || (decide ((x_14.2.length : Int) ≤ y_16))) || (decide (y_17 < (a1.length : Int)))) = true then (some false) else ((getIdx x_14.2 y_16).bind fun y_18 => ((setIdx x_14.2 y_16 x_14.1).bind fun l4_19 => (letM ((IntKind.wrap .i64 (x_14.1 + (1 : Int)))) fun t18_20 => (nx_15 (t18_20,l4_19)))))))) else (k_22 x_14.2))
def m75 (n : Nat) (a0 : R24) (a1 : (List Int)) : Option Bool :=
  ((m81o n ([(a1.length : Int)] : List Int) (a0.Pq.length : Int)).bind fun y_1 => (jn (fun p_21 : (List Int) => ((gdO (decide ((0 : Int) < (a1.length : Int))) (getIdx a1 (0 : Int)) default).bind fun y_23 => ((gdO ((decide ((0 : Int) < (a1.length : Int))) && (decide (y_23 = (0 : Int)))) (m39x1 n a0.Bq p_21 a1) default).bind fun y_24 => (some (((decide ((0 : Int) < (a1.length : Int))) && (decide (y_23 = (0 : Int)))) && (!y_24)))))) fun k_22 => (loopM (m75_L1 n a1 k_22) n ((0 : Int),y_1))))
def m42 (n : Nat) (a0 : R24) (a1 : (List Int)) : Option Bool :=
  ((gdO (decide ((a1.length : Int) = (a0.Pq.length : Int))) (m75 n (R24.mk a0.Pq a0.Bq) a1) default).bind fun y_1 => (some ((decide ((a1.length : Int) = (a0.Pq.length : Int))) && y_1)))
def m49_L1 (n : Nat) (a0 : R24) (a1 : (List Int)) (k_15 : Int → Option Int) (nx_8 : (Int × Int) → Option Int) (x_7 : (Int × Int)) : Option Int :=
  (if (decide (x_7.2 < (a1.length : Int))) = true then ((getIdx a1 (IntKind.wrap .i64 (x_7.2 - (1 : Int)))).bind fun y_9 => ((getIdx a1 x_7.2).bind fun y_10 => ((m48 n (R24.mk a0.Pq a0.Bq) y_9 y_10).bind fun y_11 => (letM ((IntKind.wrap .i64 (x_7.1 + y_11))) fun t5_12 => (letM ((IntKind.wrap .i64 (x_7.2 + (1 : Int)))) fun t6_13 => (nx_8 (t5_12,t6_13))))))) else (k_15 x_7.1))
def m49 (n : Nat) (a0 : R24) (a1 : (List Int)) : Option Int :=
  (jn (fun p_14 : Int => (some p_14)) fun k_15 => (loopM (m49_L1 n a0 a1 k_15) n ((0 : Int),(1 : Int))))
def m19 (n : Nat) (a0 : R24) (a1 : (List Int)) : Option Int :=
  ((m49 n (R24.mk a0.Pq a0.Bq) a1).bind fun y_1 => ((getIdx a1 (IntKind.wrap .i64 ((a1.length : Int) - (1 : Int)))).bind fun y_2 => ((m48 n (R24.mk a0.Pq a0.Bq) y_2 (0 : Int)).bind fun y_3 => (letM ((IntKind.wrap .i64 (y_1 + y_3))) fun t4_4 => (some t4_4)))))
def m43o (n : Nat) (a0 : (List Int)) : Option (List Int) :=
  ((apd ([] : List Int) a0).bind fun l1_2 => (some l1_2))
def m76_L1 (n : Nat) (a0_n : Nat) (a0_o : Nat) (k_31 : (List Int) → Option (List Int)) (nx_21 : (Int × Int × (List Int)) → Option (List Int)) (x_20 : (Int × Int × (List Int))) : Option (List Int) :=
  (if (decide (x_20.1 < x_20.2.1)) = true then ((gip x_20.2.2 a0_o a0_n x_20.2.1).bind fun y_22 => ((gip x_20.2.2 a0_o a0_n x_20.1).bind fun y_23 => ((gip x_20.2.2 a0_o a0_n x_20.1).bind fun y_24 => ((setIdx x_20.2.2 ((a0_o + (x_20.1).toNat : Nat) : Int) y_22).bind fun l1_25 => ((gip l1_25 a0_o a0_n x_20.2.1).bind fun y_26 => ((setIdx l1_25 ((a0_o + (x_20.2.1).toNat : Nat) : Int) y_23).bind fun l1_27 => (letM ((IntKind.wrap .i64 (x_20.1 + (1 : Int)))) fun t2_28 => (letM ((IntKind.wrap .i64 (x_20.2.1 - (1 : Int)))) fun t3_29 => (nx_21 (t2_28,t3_29,l1_27)))))))))) else (k_31 x_20.2.2))
def m76 (n : Nat) (a0_b : (List Int)) (a0_n : Nat) (a0_o : Nat) : Option (List Int) :=
  (letM ((IntKind.wrap .i64 (((a0_n : Nat) : Int) - (1 : Int)))) fun t3_1 => (jn (fun p_30 : (List Int) => (some p_30)) fun k_31 => (loopM (m76_L1 n a0_n a0_o k_31) n ((0 : Int),t3_1,a0_b))))
def m44_L3 (n : Nat) (a0 : R24) (a1 : (List Int)) (y_1 : Int) (x_32 : Int) (k_61 : Unit → Option ((List Int) × Bool)) (nx_52 : Int → Option ((List Int) × Bool)) (x_51 : Int) : Option ((List Int) × Bool) :=
  (if (decide (x_51 < (a1.length : Int))) = true then ((m43o n a1).bind fun y_53 => ((slc y_53 x_32 (IntKind.wrap .i64 (x_51 + (1 : Int)))).bind fun s_54 => ((m76 n y_53 (((IntKind.wrap .i64 (x_51 + (1 : Int)))).toNat - (x_32).toNat) (0 + (x_32).toNat * 1)).bind fun y_55 => (asrt (y_53.length = y_55.length) ((m19 n (R24.mk a0.Pq a0.Bq) y_55).bind fun y_57 => ((gdO (decide (y_57 < y_1)) (m42 n (R24.mk a0.Pq a0.Bq) y_55) default).bind fun y_58 => (if ((decide (y_57 < y_1)) && y_58) = true then (some (y_55,true)) else (letM ((IntKind.wrap .i64 (x_51 + (1 : Int)))) fun t8_59 => (nx_52 t8_59))))))))) else (k_61 ()))
def m44_L2 (n : Nat) (a0 : R24) (a1 : (List Int)) (y_1 : Int) (k_64 : Unit → Option ((List Int) × Bool)) (nx_33 : Int → Option ((List Int) × Bool)) (x_32 : Int) : Option ((List Int) × Bool) :=
  (if (decide (x_32 < (a1.length : Int))) = true then (letM ((IntKind.wrap .i64 (x_32 + (1 : Int)))) fun t8_34 => (jn (fun p_60 : Unit => (letM ((IntKind.wrap .i64 (x_32 + (1 : Int)))) fun t7_62 => (nx_33 t7_62))) fun k_61 => (loopM (m44_L3 n a0 a1 y_1 x_32 k_61) n t8_34))) else (k_64 ()))
def m44 (n : Nat) (a0 : R24) (a1 : (List Int)) : Option ((List Int) × Bool) :=
  ((m19 n (R24.mk a0.Pq a0.Bq) a1).bind fun y_1 => (jn (fun p_63 : Unit => (some (a1,false))) fun k_64 => (loopM (m44_L2 n a0 a1 y_1 k_64) n (1 : Int))))
def m17_L1 (n : Nat) (a0 : R24) (k_12 : (List Int) → Option ((List Int) × Int)) (nx_9 : ((List Int) × Bool) → Option ((List Int) × Int)) (x_8 : ((List Int) × Bool)) : Option ((List Int) × Int) :=
  (if x_8.2 = true then ((m44 n (R24.mk a0.Pq a0.Bq) x_8.1).bind fun y_10 => (nx_9 (y_10.1,y_10.2))) else (k_12 x_8.1))
def m17 (n : Nat) (a0 : R24) (a1 : (List Int)) : Option ((List Int) × Int) :=
  ((m16 n (R24.mk a0.Pq a0.Bq)).bind fun y_1 => (if (!y_1) = true then (some (([] : List Int),(1 : Int))) else ((m42 n (R24.mk a0.Pq a0.Bq) a1).bind fun y_2 => (if (!y_2) = true then (some (([] : List Int),(22 : Int))) else ((m43 n a1).bind fun y_3 => (jn (fun p_11 : (List Int) => (some (p_11,(0 : Int)))) fun k_12 => (loopM (m17_L1 n a0 k_12) n (y_3,true))))))))
def m20_L5 (n : Nat) (x_75 : Int × Int × Int × (List Int) × (List Int)) (y_77 : (Int × (List Int))) (k_101 : (List Int) → Option (List Int)) (nx_94 : (Int × (List Int)) → Option (List Int)) (x_93 : (Int × (List Int))) : Option (List Int) :=
  (if (decide (x_93.1 < (y_77.2.length : Int))) = true then ((getIdx y_77.2 x_93.1).bind fun y_95 => ((getIdx x_93.2 x_93.1).bind fun y_96 => ((getIdx x_93.2 x_93.1).bind fun y_97 => ((setIdx x_93.2 x_93.1 (if (20000 : Int) < (if (-20000 : Int) > (IntKind.wrap .i64 (y_96 + (IntKind.wrap .i64 (x_75.2.1 * (IntKind.wrap .i64 (y_95 - (2 : Int))))))) then (-20000 : Int) else (IntKind.wrap .i64 (y_96 + (IntKind.wrap .i64 (x_75.2.1 * (IntKind.wrap .i64 (y_95 - (2 : Int)))))))) then (20000 : Int) else (if (-20000 : Int) > (IntKind.wrap .i64 (y_96 + (IntKind.wrap .i64 (x_75.2.1 * (IntKind.wrap .i64 (y_95 - (2 : Int))))))) then (-20000 : Int) else (IntKind.wrap .i64 (y_96 + (IntKind.wrap .i64 (x_75.2.1 * (IntKind.wrap .i64 (y_95 - (2 : Int)))))))))).bind fun l3_98 => (letM ((IntKind.wrap .i64 (x_93.1 + (1 : Int)))) fun t59_99 => (nx_94 (t59_99,l3_98))))))) else (k_101 x_93.2))
def m20_L4 (n : Nat) (a0 : R24) (a1 : Int) (k_107 : (List Int) → Option (List Int)) (nx_76 : (Int × Int × Int × (List Int) × (List Int)) → Option (List Int)) (x_75 : (Int × Int × Int × (List Int) × (List Int))) : Option (List Int) :=
  (if (decide (x_75.2.2.1 < a1)) = true then ((m35 n (R24.mk a0.Pq a0.Bq) x_75.2.2.2.2).bind fun y_77 => (jn (fun p_79 : Int × (List Int) => (jn (fun p_100 : (List Int) => (jn (fun p_103 : Int => (letM ((IntKind.wrap .i64 (x_75.2.2.1 + (1 : Int)))) fun t42_105 => (nx_76 (p_79.1,p_103,t42_105,p_79.2,p_100)))) fun k_104 => (if (decide ((x_75.2.2.1.tmod (5 : Int)) = (4 : Int))) = true then (letM ((if (IntKind.wrap .i64 (x_75.2.1.tdiv (2 : Int))) > (1 : Int) then (IntKind.wrap .i64 (x_75.2.1.tdiv (2 : Int))) else (1 : Int))) fun t9_102 => (k_104 t9_102)) else (k_104 x_75.2.1)))) fun k_101 => (loopM (m20_L5 n x_75 y_77 k_101) n ((0 : Int),x_75.2.2.2.2)))) fun k_80 => (if (decide (x_75.1 < y_77.1)) = true then ((m43o n x_75.2.2.2.2).bind fun y_78 => (k_80 (y_77.1,y_78))) else (k_80 (x_75.1,x_75.2.2.2.1))))) else (k_107 x_75.2.2.2.1))
def m20_L1 (n : Nat) (a0 : R24) (k_14 : Int → Option (List Int)) (nx_9 : (Int × Int) → Option (List Int)) (x_8 : (Int × Int)) : Option (List Int) :=
  (if (decide (x_8.2 < (a0.Pq.length : Int))) = true then ((m48 n (R24.mk a0.Pq a0.Bq) (0 : Int) x_8.2).bind fun y_10 => (letM ((if (IntKind.wrap .i64 (y_10.tdiv (4 : Int))) > x_8.1 then (IntKind.wrap .i64 (y_10.tdiv (4 : Int))) else x_8.1)) fun t9_11 => (letM ((IntKind.wrap .i64 (x_8.2 + (1 : Int)))) fun t31_12 => (nx_9 (t9_11,t31_12))))) else (k_14 x_8.1))
def m20 (n : Nat) (a0 : R24) (a1 : Int) : Option (List Int) :=
  ((mk (0 : Int) (a0.Pq.length : Int) (a0.Pq.length : Int)).bind fun l2_1 => ((m35 n (R24.mk a0.Pq a0.Bq) l2_1).bind fun y_2 => ((m43o n l2_1).bind fun y_3 => (jn (fun p_13 : Int => (jn (fun p_106 : (List Int) => (some p_106)) fun k_107 => (loopM (m20_L4 n a0 a1 k_107) n (y_2.1,p_13,(0 : Int),l2_1,y_3)))) fun k_14 => (loopM (m20_L1 n a0 k_14) n ((1 : Int),(0 : Int)))))))
def m80_L1 (n : Nat) (a0 : (List Int)) (a1 : Int) (k_9 : Unit → Option Int) (nx_5 : Int → Option Int) (x_4 : Int) : Option Int :=
  (if (decide (x_4 < (a0.length : Int))) = true then ((getIdx a0 x_4).bind fun y_6 => (if (decide (a1 = y_6)) = true then (some x_4) else (letM ((IntKind.wrap .i64 (x_4 + (1 : Int)))) fun t8_7 => (nx_5 t8_7)))) else (k_9 ()))
def m80 (n : Nat) (a0 : (List Int)) (a1 : Int) : Option Int :=
  (jn (fun p_8 : Unit => (some (-1 : Int))) fun k_9 => (loopM (m80_L1 n a0 a1 k_9) n (0 : Int)))
def m55 (n : Nat) (a0 : (List Int)) (a1 : Int) : Option Bool :=
  ((m80 n a0 a1).bind fun y_1 => (some (decide ((0 : Int) ≤ y_1))))
def m24_L1 (n : Nat) (a0 : R64) (a1 : (List Int)) (t63_9 : Int) (k_36 : (Int × (List Int)) → Option Int) (nx_27 : (Int × Int × (List Int)) → Option Int) (x_26 : (Int × Int × (List Int))) : Option Int :=
  (if (decide (x_26.2.1 < t63_9)) = true then ((m55 n a0.Path x_26.2.1).bind fun y_28 => (jn (fun p_32 : Int × (List Int) => (letM ((IntKind.wrap .i64 (x_26.2.1 + (1 : Int)))) fun t64_34 => (nx_27 (p_32.1,t64_34,p_32.2)))) fun k_33 => (if (!y_28) = true then ((apd x_26.2.2 ([x_26.2.1] : List Int)).bind fun l3_29 => ((getIdx a1 x_26.2.1).bind fun y_30 => (letM ((IntKind.wrap .i64 (x_26.1 - (IntKind.wrap .i64 ((2 : Int) * y_30))))) fun t10_31 => (k_33 (t10_31,l3_29))))) else (k_33 (x_26.1,x_26.2.2))))) else (k_36 (x_26.1,x_26.2.2)))
def m24 (n : Nat) (a0 : R64) (a1 : (List Int)) : Option Int :=
  (if (decide ((a0.Path.length : Int) = (a0.Gq.Pq.length : Int))) = true then ((m19 n (R24.mk a0.Gq.Pq a0.Gq.Bq) a0.Path).bind fun y_1 => (some y_1)) else (if (decide ((a0.Path.length : Int) = (1 : Int))) = true then ((m35 n (R24.mk a0.Gq.Pq a0.Gq.Bq) a1).bind fun y_2 => (some y_2.1)) else ((getIdx a0.Path (IntKind.wrap .i64 ((a0.Path.length : Int) - (1 : Int)))).bind fun y_3 => (letM (([y_3,(0 : Int)] : List Int)) fun l3_4 => ((m49 n (R24.mk a0.Gq.Pq a0.Gq.Bq) a0.Path).bind fun y_5 => ((getIdx a1 y_3).bind fun y_6 => ((getIdx a1 (0 : Int)).bind fun y_7 => (letM ((IntKind.wrap .i64 ((IntKind.wrap .i64 (y_5 - y_6)) - y_7))) fun t10_8 => (letM ((a0.Gq.Pq.length : Int)) fun t63_9 => (jn (fun p_35 : Int × (List Int) => ((mk (0 : Int) (a0.Gq.Pq.length : Int) (a0.Gq.Pq.length : Int)).bind fun l5_37 => ((m56 n (R24.mk a0.Gq.Pq a0.Gq.Bq) p_35.2 a1 l5_37).bind fun y_38 => (asrt (l5_37.length = y_38.2.length) (letM ((IntKind.wrap .i64 (p_35.1 + y_38.1))) fun t4_40 => (some t4_40)))))) fun k_36 => (loopM (m24_L1 n a0 a1 t63_9 k_36) n (t10_8,(0 : Int),l3_4))))))))))))
def m23_L1 (n : Nat) (a0 : R64) (a1_b0 : (List (List Int))) (k_11 : Unit → Option R67) (nx_6 : Int → Option R67) (x_5 : Int) : Option R67 :=
  (if (decide (x_5 < (a1_b0.length : Int))) = true then ((getIdx a1_b0 x_5).bind fun y_7 => ((m24 n (R64.mk (R24.mk a0.Gq.Pq a0.Gq.Bq) a0.Path a0.Ln) y_7).bind fun y_8 => (if (decide (a0.Ln ≤ y_8)) = true then (some (R67.mk (2 : Int) (0 : Int) y_7)) else (letM ((IntKind.wrap .i64 (x_5 + (1 : Int)))) fun t9_9 => (nx_6 t9_9))))) else (k_11 ()))
def m23 (n : Nat) (a0 : R64) (a1_b0 : (List (List Int))) (a2_b0 : (List R50)) (a2_b1 : (List R71)) : Option R67 :=
  (jn (fun p_10 : Unit => (if (decide ((a0.Path.length : Int) = (a2_b0.length : Int))) = true then (some (R67.mk (0 : Int) (0 : Int) ([] : List Int))) else (some (R67.mk (1 : Int) (0 : Int) ([] : List Int))))) fun k_11 => (loopM (m23_L1 n a0 a1_b0 k_11) n (0 : Int)))
def m52 (n : Nat) (a0 : Int) : Option Bool :=
  (some ((decide ((-1073741824 : Int) ≤ a0)) && (decide (a0 ≤ (1073741824 : Int)))))
def m78 (n : Nat) (a0 : Int) : Option Bool :=
  ((m52 n a0).bind fun y_1 => (some (!y_1)))
def m91x1_L1 (n : Nat) (a0 : (List Int)) (k_11 : Unit → Option Int) (nx_6 : Int → Option Int) (x_5 : Int) : Option Int :=
  (if (decide (x_5 < (a0.length : Int))) = true then ((getIdx a0 x_5).bind fun y_7 => ((m78 n y_7).bind fun y_8 => (if y_8 = true then (some x_5) else (letM ((IntKind.wrap .i64 (x_5 + (1 : Int)))) fun t8_9 => (nx_6 t8_9))))) else (k_11 ()))
def m91x1 (n : Nat) (a0 : (List Int)) : Option Int :=
  (jn (fun p_10 : Unit => (some (-1 : Int))) fun k_11 => (loopM (m91x1_L1 n a0 k_11) n (0 : Int)))
def m68x1 (n : Nat) (a0 : (List Int)) : Option Bool :=
  ((m91x1 n a0).bind fun y_1 => (some (decide ((0 : Int) ≤ y_1))))
def m51 (n : Nat) (a0 : R30) : Option Bool :=
  (if (decide ((0 : Int) < (a0.Kd.length : Int))) = true then ((gdO ((decide ((a0.Lf.length : Int) = (0 : Int))) && (decide ((a0.Kd.length : Int) ≤ (100 : Int)))) (m52 n a0.Sp) default).bind fun y_1 => (some (((decide ((a0.Lf.length : Int) = (0 : Int))) && (decide ((a0.Kd.length : Int) ≤ (100 : Int)))) && y_1))) else ((gdO ((decide (a0.Sp = (0 : Int))) && (decide ((a0.Lf.length : Int) ≤ (40 : Int)))) (m68x1 n a0.Lf) default).bind fun y_2 => (some (((decide (a0.Sp = (0 : Int))) && (decide ((a0.Lf.length : Int) ≤ (40 : Int)))) && (!y_2)))))
def m53 (n : Nat) (a0 : R64) : Option Bool :=
  ((m16 n (R24.mk a0.Gq.Pq a0.Gq.Bq)).bind fun y_1 => ((gdO y_1 (m75 n (R24.mk a0.Gq.Pq a0.Gq.Bq) a0.Path) default).bind fun y_2 => (some (((y_1 && y_2) && (decide ((-1073741824 : Int) ≤ a0.Ln))) && (decide (a0.Ln ≤ (1073741824 : Int)))))))
def m22_L1 (n : Nat) (a0 : R64) (y_2 : (List Int)) (k_23 : (List R64) → Option ((List R64) × Bool)) (nx_16 : (Int × (List R64)) → Option ((List R64) × Bool)) (x_15 : (Int × (List R64))) : Option ((List R64) × Bool) :=
  (if (decide (x_15.1 < (y_2.length : Int))) = true then ((getIdx y_2 x_15.1).bind fun y_17 => ((m43o n a0.Path).bind fun y_18 => ((apd y_18 ([y_17] : List Int)).bind fun l3_19 => ((apd x_15.2 ([(R64.mk (R24.mk a0.Gq.Pq a0.Gq.Bq) l3_19 a0.Ln)] : List R64)).bind fun l2_20 => (letM ((IntKind.wrap .i64 (x_15.1 + (1 : Int)))) fun t32_21 => (nx_16 (t32_21,l2_20))))))) else (k_23 x_15.2))
def m22 (n : Nat) (a0 : R64) (a1 : Int) : Option ((List R64) × Bool) :=
  ((gdO (!(!decide (a1 = (0 : Int)))) (m53 n (R64.mk (R24.mk a0.Gq.Pq a0.Gq.Bq) a0.Path a0.Ln)) default).bind fun y_1 => (if (((!decide (a1 = (0 : Int))) || (!y_1)) || (decide ((a0.Path.length : Int) = (a0.Gq.Pq.length : Int)))) = true then (some (([] : List R64),false)) else ((m54 n (R24.mk a0.Gq.Pq a0.Gq.Bq) a0.Path).bind fun y_2 => (jn (fun p_22 : (List R64) => (some (p_22,true))) fun k_23 => (loopM (m22_L1 n a0 y_2 k_23) n ((0 : Int),([] : List R64)))))))
def m50_L1 (n : Nat) (a1 : Int) (a3_b0_0_b0 : (List (List Int))) (a3_b0_1_b0 : (List R50)) (a3_b0_1_b1 : (List R71)) (rc_0 : R64 → Int → Int → (List (List Int)) → (List R50) → (List R71) → Option (R30 × Int × Int)) (y_5 : ((List R64) × Bool)) (k_24 : (Int × (List K30)) → Option (R30 × Int × Int)) (nx_18 : (Int × Int × (List K30)) → Option (R30 × Int × Int)) (x_17 : (Int × Int × (List K30))) : Option (R30 × Int × Int) :=
  (if (decide (x_17.1 < (y_5.1.length : Int))) = true then ((getIdx y_5.1 x_17.1).bind fun y_19 => ((rc_0 (R64.mk (R24.mk y_19.Gq.Pq y_19.Gq.Bq) y_19.Path y_19.Ln) (IntKind.wrap .i64 (a1 + (1 : Int))) x_17.2.1 a3_b0_0_b0 a3_b0_1_b0 a3_b0_1_b1).bind fun y_20 => (if (!decide (y_20.2.1 = (0 : Int))) = true then (some ((R30.mk (0 : Int) ([] : List K30) ([] : List Int)),y_20.2.1,y_20.2.2)) else ((apk x_17.2.2 ([(K30.of (R30.mk y_20.1.Sp y_20.1.Kd y_20.1.Lf))] : List K30)).bind fun l12_21 => (letM ((IntKind.wrap .i64 (x_17.1 + (1 : Int)))) fun t80_22 => (nx_18 (t80_22,y_20.2.2,l12_21))))))) else (k_24 (x_17.2.1,x_17.2.2)))
def m50B (n : Nat) (rc_0 : R64 → Int → Int → (List (List Int)) → (List R50) → (List R71) → Option (R30 × Int × Int)) (a0 : R64) (a1 : Int) (a2_b0 : Int) (a3_b0_0_b0 : (List (List Int))) (a3_b0_1_b0 : (List R50)) (a3_b0_1_b1 : (List R71)) : Option (R30 × Int × Int) :=
  (letM ((IntKind.wrap .i64 (a2_b0 + (1 : Int)))) fun c_1 => (if ((decide ((2000 : Int) < c_1)) || (decide ((40 : Int) < a1))) = true then (some ((R30.mk (0 : Int) ([] : List K30) ([] : List Int)),(9 : Int),c_1)) else ((m23 n (R64.mk (R24.mk a0.Gq.Pq a0.Gq.Bq) a0.Path a0.Ln) a3_b0_0_b0 a3_b0_1_b0 a3_b0_1_b1).bind fun y_2 => (if (decide (y_2.Kind = (2 : Int))) = true then ((m43 n y_2.Lf).bind fun y_3 => ((m51 n (R30.mk (0 : Int) ([] : List K30) y_3)).bind fun y_4 => (if (!y_4) = true then (some ((R30.mk (0 : Int) ([] : List K30) ([] : List Int)),(9 : Int),c_1)) else (some ((R30.mk (0 : Int) ([] : List K30) y_3),(0 : Int),c_1))))) else (if (decide (y_2.Kind = (1 : Int))) = true then ((m22 n (R64.mk (R24.mk a0.Gq.Pq a0.Gq.Bq) a0.Path a0.Ln) y_2.Sp).bind fun y_5 => (if ((!y_5.2) || (decide ((y_5.1.length : Int) = (0 : Int)))) = true then (some ((R30.mk (0 : Int) ([] : List K30) ([] : List Int)),(8 : Int),c_1)) else ((gdO (!(decide ((100 : Int) < (y_5.1.length : Int)))) (m52 n y_2.Sp) default).bind fun y_6 => (if ((decide ((100 : Int) < (y_5.1.length : Int))) || (!y_6)) = true then (some ((R30.mk (0 : Int) ([] : List K30) ([] : List Int)),(9 : Int),c_1)) else (jn (fun p_23 : Int × (List K30) => (some ((R30.mk y_2.Sp p_23.2 ([] : List Int)),(0 : Int),p_23.1))) fun k_24 => (loopM (m50_L1 n a1 a3_b0_0_b0 a3_b0_1_b0 a3_b0_1_b1 rc_0 y_5 k_24) n ((0 : Int),c_1,([] : List K30)))))))) else (some ((R30.mk (0 : Int) ([] : List K30) ([] : List Int)),(8 : Int),c_1)))))))
def m50F (n : Nat) : Nat → R64 → Int → Int → (List (List Int)) → (List R50) → (List R71) → Option (R30 × Int × Int)
  | 0 => fun _ _ _ _ _ _ => none
  | f + 1 => m50B n (m50F n f)
def m50 (n : Nat) (a0 : R64) (a1 : Int) (a2_b0 : Int) (a3_b0_0_b0 : (List (List Int))) (a3_b0_1_b0 : (List R50)) (a3_b0_1_b1 : (List R71)) : Option (R30 × Int × Int) := m50F n n a0 a1 a2_b0 a3_b0_0_b0 a3_b0_1_b0 a3_b0_1_b1
def m21 (n : Nat) (a0 : R64) (a2_0_b0 : (List (List Int))) (a2_1_b0 : (List R50)) (a2_1_b1 : (List R71)) : Option (R30 × Int) :=
  ((m50 n (R64.mk (R24.mk a0.Gq.Pq a0.Gq.Bq) a0.Path a0.Ln) (1 : Int) (0 : Int) a2_0_b0 a2_1_b0 a2_1_b1).bind fun y_1 => (some ((R30.mk y_1.1.Sp y_1.1.Kd y_1.1.Lf),y_1.2.1)))
def m6 (n : Nat) (a0 : R24) : Option (R32 × Int) :=
  ((m13 n (R24.mk a0.Pq a0.Bq)).bind fun y_1 => (jn (fun p_5 : (List Int) × Int => ((mk (0 : Int) (a0.Pq.length : Int) (a0.Pq.length : Int)).bind fun l3_7 => ((m20 n (R24.mk a0.Pq a0.Bq) (60 : Int)).bind fun y_8 => (letM (([l3_7,y_8] : List (List Int))) fun c_9 => ((m21 n (R64.mk (R24.mk a0.Pq a0.Bq) ([(0 : Int)] : List Int) p_5.2) c_9 a0.Pq a0.Bq).bind fun y_10 => (if (!decide (y_10.2 = (0 : Int))) = true then (some ((R32.mk ([] : List Int) (0 : Int) (R30.mk (0 : Int) ([] : List K30) ([] : List Int))),(9 : Int))) else (some ((R32.mk p_5.1 p_5.2 (R30.mk y_10.1.Sp y_10.1.Kd y_10.1.Lf)),(0 : Int))))))))) fun k_6 => (if (decide (y_1.2.2 = (0 : Int))) = true then (k_6 (y_1.1,y_1.2.1)) else (if (decide (y_1.2.2 = (9 : Int))) = true then ((m18 n (R24.mk a0.Pq a0.Bq)).bind fun y_2 => ((m17 n (R24.mk a0.Pq a0.Bq) y_2).bind fun y_3 => ((m19 n (R24.mk a0.Pq a0.Bq) y_3.1).bind fun y_4 => (k_6 (y_3.1,y_4))))) else (some ((R32.mk ([] : List Int) (0 : Int) (R30.mk (0 : Int) ([] : List K30) ([] : List Int))),y_1.2.2))))))
def m57_L1 (n : Nat) (a0 : (List Int)) (a1 : Int) (k_9 : Unit → Option Bool) (nx_5 : Int → Option Bool) (x_4 : Int) : Option Bool :=
  (if (decide (x_4 < (a0.length : Int))) = true then ((getIdx a0 x_4).bind fun y_6 => (if (decide (y_6 = a1)) = true then (some true) else (letM ((IntKind.wrap .i64 (x_4 + (1 : Int)))) fun t5_7 => (nx_5 t5_7)))) else (k_9 ()))
def m57 (n : Nat) (a0 : (List Int)) (a1 : Int) : Option Bool :=
  (jn (fun p_8 : Unit => (some false)) fun k_9 => (loopM (m57_L1 n a0 a1 k_9) n (0 : Int)))
def m25_L4 (n : Nat) (a0 : R24) (a1 : (List Int)) (x_49 : Int × (List Int)) (k_69 : Bool → Option (List Int)) (nx_63 : (Bool × Int) → Option (List Int)) (x_62 : (Bool × Int)) : Option (List Int) :=
  (if (decide (x_62.2 < (a0.Bq.length : Int))) = true then ((gdO x_62.1 (getIdx a0.Bq x_62.2) default).bind fun y_64 => ((gdO (x_62.1 && (!(!decide (y_64.f1 = x_49.1)))) (getIdx a0.Bq x_62.2) default).bind fun y_65 => ((gdO (x_62.1 && (!(!decide (y_64.f1 = x_49.1)))) (m57 n a1 y_65.f0) default).bind fun y_66 => (letM ((IntKind.wrap .i64 (x_62.2 + (1 : Int)))) fun t8_67 => (nx_63 ((x_62.1 && ((!decide (y_64.f1 = x_49.1)) || y_66)),t8_67)))))) else (k_69 x_62.1))
def m25_L3 (n : Nat) (a0 : R24) (a1 : (List Int)) (k_75 : (List Int) → Option (List Int)) (nx_50 : (Int × (List Int)) → Option (List Int)) (x_49 : (Int × (List Int))) : Option (List Int) :=
  (if (decide (x_49.1 < (a0.Pq.length : Int))) = true then ((m57 n a1 x_49.1).bind fun y_51 => (jn (fun p_68 : Bool => (jn (fun p_71 : (List Int) => (letM ((IntKind.wrap .i64 (x_49.1 + (1 : Int)))) fun t6_73 => (nx_50 (t6_73,p_71)))) fun k_72 => (if p_68 = true then ((apd x_49.2 ([x_49.1] : List Int)).bind fun l2_70 => (k_72 l2_70)) else (k_72 x_49.2)))) fun k_69 => (loopM (m25_L4 n a0 a1 x_49 k_69) n ((!y_51),(0 : Int))))) else (k_75 x_49.2))
def m25 (n : Nat) (a0 : R24) (a1 : (List Int)) : Option (List Int) :=
  (jn (fun p_74 : (List Int) => (some p_74)) fun k_75 => (loopM (m25_L3 n a0 a1 k_75) n ((0 : Int),([] : List Int))))
def m8_L3 (n : Nat) (a0 : R24) (k_35 : Unit → Option Bool) (nx_30 : (List Int) → Option Bool) (x_29 : (List Int)) : Option Bool :=
  (if (decide ((x_29.length : Int) < (a0.Pq.length : Int))) = true then ((m25 n (R24.mk a0.Pq a0.Bq) x_29).bind fun y_31 => (if (decide ((y_31.length : Int) = (0 : Int))) = true then (some false) else ((getIdx y_31 (0 : Int)).bind fun y_32 => ((apd x_29 ([y_32] : List Int)).bind fun l4_33 => (nx_30 l4_33))))) else (k_35 ()))
def m8_L2 (n : Nat) (a0 : R24) (k_20 : Unit → Option Bool) (nx_15 : Int → Option Bool) (x_14 : Int) : Option Bool :=
  (if (decide (x_14 < (a0.Bq.length : Int))) = true then ((getIdx a0.Bq x_14).bind fun y_16 => (letM ((((((decide (y_16.f0 < (1 : Int))) || (decide ((a0.Pq.length : Int) ≤ y_16.f0))) || (decide (y_16.f1 < (1 : Int)))) || (decide ((a0.Pq.length : Int) ≤ y_16.f1))) || (decide (y_16.f0 = y_16.f1)))) fun t91_17 => (if t91_17 = true then (some false) else (letM ((IntKind.wrap .i64 (x_14 + (1 : Int)))) fun t6_18 => (nx_15 t6_18))))) else (k_20 ()))
def m8_L1 (n : Nat) (a0 : R24) (k_9 : Unit → Option Bool) (nx_5 : Int → Option Bool) (x_4 : Int) : Option Bool :=
  (if (decide (x_4 < (a0.Pq.length : Int))) = true then ((getIdx a0.Pq x_4).bind fun y_6 => (if ((((decide (y_6.X < (-8000 : Int))) || (decide ((8000 : Int) < y_6.X))) || (decide (y_6.Y < (-8000 : Int)))) || (decide ((8000 : Int) < y_6.Y))) = true then (some false) else (letM ((IntKind.wrap .i64 (x_4 + (1 : Int)))) fun t4_7 => (nx_5 t4_7)))) else (k_9 ()))
def m8 (n : Nat) (a0 : R24) : Option Bool :=
  (if (((decide ((a0.Pq.length : Int) < (1 : Int))) || (decide ((60 : Int) < (a0.Pq.length : Int)))) || (decide ((200 : Int) < (a0.Bq.length : Int)))) = true then (some false) else (jn (fun p_8 : Unit => (jn (fun p_19 : Unit => (jn (fun p_34 : Unit => (some true)) fun k_35 => (loopM (m8_L3 n a0 k_35) n ([(0 : Int)] : List Int)))) fun k_20 => (loopM (m8_L2 n a0 k_20) n (0 : Int)))) fun k_9 => (loopM (m8_L1 n a0 k_9) n (0 : Int))))
def m10_L1 (n : Nat) (a0 : R30) (rc_0 : R30 → Option R41) (k_18 : (List K41) → Option R41) (nx_12 : (Int × (List K41)) → Option R41) (x_11 : (Int × (List K41))) : Option R41 :=
  (if (decide (x_11.1 < (a0.Kd.length : Int))) = true then ((getIdx a0.Kd x_11.1).bind fun y_13 => ((rc_0 (R30.mk y_13.out.Sp y_13.out.Kd y_13.out.Lf)).bind fun y_14 => ((apk x_11.2 ([(K41.of y_14)] : List K41)).bind fun l4_15 => (letM ((IntKind.wrap .i64 (x_11.1 + (1 : Int)))) fun t14_16 => (nx_12 (t14_16,l4_15)))))) else (k_18 x_11.2))
def m10B (n : Nat) (rc_0 : R30 → Option R41) (a0 : R30) : Option R41 :=
  (jn (fun p_17 : (List K41) => (some (R41.mk a0.Sp p_17 a0.Lf))) fun k_18 => (loopM (m10_L1 n a0 rc_0 k_18) n ((0 : Int),([] : List K41))))
def m10F (n : Nat) : Nat → R30 → Option R41
  | 0 => fun _ => none
  | f + 1 => m10B n (m10F n f)
def m10 (n : Nat) (a0 : R30) : Option R41 := m10F n n a0
def m58_L1 (n : Nat) (a0 : R24) (a1 : (List Int)) (k_16 : Unit → Option Bool) (nx_9 : Int → Option Bool) (x_8 : Int) : Option Bool :=
  (if (decide (x_8 < (a1.length : Int))) = true then ((slc a1 (0 : Int) x_8).bind fun s_10 => ((m25 n (R24.mk a0.Pq a0.Bq) s_10).bind fun y_11 => ((getIdx a1 x_8).bind fun y_12 => ((m57 n y_11 y_12).bind fun y_13 => (if (!y_13) = true then (some false) else (letM ((IntKind.wrap .i64 (x_8 + (1 : Int)))) fun t5_14 => (nx_9 t5_14))))))) else (k_16 ()))
def m58 (n : Nat) (a0 : R24) (a1 : (List Int)) : Option Bool :=
  ((gdO (!(!decide ((a1.length : Int) = (a0.Pq.length : Int)))) (getIdx a1 (0 : Int)) default).bind fun y_1 => (if ((!decide ((a1.length : Int) = (a0.Pq.length : Int))) || (!decide (y_1 = (0 : Int)))) = true then (some false) else (jn (fun p_15 : Unit => (some true)) fun k_16 => (loopM (m58_L1 n a0 a1 k_16) n (1 : Int)))))
def m83 (n : Nat) (a0 : R50) (a1 : R50) : Option Int :=
  (letM ((if (IntKind.wrap .i64 (a1.Y - a0.Y)) > (if (IntKind.wrap .i64 (a0.Y - a1.Y)) > (if (IntKind.wrap .i64 (a1.X - a0.X)) > (IntKind.wrap .i64 (a0.X - a1.X)) then (IntKind.wrap .i64 (a1.X - a0.X)) else (IntKind.wrap .i64 (a0.X - a1.X))) then (IntKind.wrap .i64 (a0.Y - a1.Y)) else (if (IntKind.wrap .i64 (a1.X - a0.X)) > (IntKind.wrap .i64 (a0.X - a1.X)) then (IntKind.wrap .i64 (a1.X - a0.X)) else (IntKind.wrap .i64 (a0.X - a1.X)))) then (IntKind.wrap .i64 (a1.Y - a0.Y)) else (if (IntKind.wrap .i64 (a0.Y - a1.Y)) > (if (IntKind.wrap .i64 (a1.X - a0.X)) > (IntKind.wrap .i64 (a0.X - a1.X)) then (IntKind.wrap .i64 (a1.X - a0.X)) else (IntKind.wrap .i64 (a0.X - a1.X))) then (IntKind.wrap .i64 (a0.Y - a1.Y)) else (if (IntKind.wrap .i64 (a1.X - a0.X)) > (IntKind.wrap .i64 (a0.X - a1.X)) then (IntKind.wrap .i64 (a1.X - a0.X)) else (IntKind.wrap .i64 (a0.X - a1.X)))))) fun t4_1 => (some t4_1))
def m82_L1 (n : Nat) (a0 : R24) (a1 : (List Int)) (k_19 : Int → Option Int) (nx_10 : (Int × Int) → Option Int) (x_9 : (Int × Int)) : Option Int :=
  (if (decide (x_9.2 < (a1.length : Int))) = true then ((getIdx a1 (IntKind.wrap .i64 (x_9.2 - (1 : Int)))).bind fun y_11 => ((getIdx a0.Pq y_11).bind fun y_12 => ((getIdx a1 x_9.2).bind fun y_13 => ((getIdx a0.Pq y_13).bind fun y_14 => ((m83 n (R50.mk y_12.X y_12.Y) (R50.mk y_14.X y_14.Y)).bind fun y_15 => (letM ((IntKind.wrap .i64 (x_9.1 + y_15))) fun t5_16 => (letM ((IntKind.wrap .i64 (x_9.2 + (1 : Int)))) fun t6_17 => (nx_10 (t5_16,t6_17))))))))) else (k_19 x_9.1))
def m82 (n : Nat) (a0 : R24) (a1 : (List Int)) : Option Int :=
  (jn (fun p_18 : Int => (some p_18)) fun k_19 => (loopM (m82_L1 n a0 a1 k_19) n ((0 : Int),(1 : Int))))
def m59 (n : Nat) (a0 : R24) (a1 : (List Int)) : Option Int :=
  ((m82 n (R24.mk a0.Pq a0.Bq) a1).bind fun y_1 => ((getIdx a1 (IntKind.wrap .i64 ((a1.length : Int) - (1 : Int)))).bind fun y_2 => ((getIdx a0.Pq y_2).bind fun y_3 => ((getIdx a0.Pq (0 : Int)).bind fun y_4 => ((m83 n (R50.mk y_3.X y_3.Y) (R50.mk y_4.X y_4.Y)).bind fun y_5 => (letM ((IntKind.wrap .i64 (y_1 + y_5))) fun t4_6 => (some t4_6)))))))
def m26 (n : Nat) (a0 : R24) (a1 : (List Int)) : Option (Int × Int) :=
  ((m8 n (R24.mk a0.Pq a0.Bq)).bind fun y_1 => (if (!y_1) = true then (some ((0 : Int),(1 : Int))) else ((m58 n (R24.mk a0.Pq a0.Bq) a1).bind fun y_2 => (if (!y_2) = true then (some ((0 : Int),(22 : Int))) else ((m59 n (R24.mk a0.Pq a0.Bq) a1).bind fun y_3 => (some (y_3,(0 : Int))))))))
def m60_L1 (n : Nat) (a0 : R75) (k_18 : Unit → Option Bool) (nx_11 : Int → Option Bool) (x_10 : Int) : Option Bool :=
  (if (decide (x_10 < (a0.Path.length : Int))) = true then ((slc a0.Path (0 : Int) x_10).bind fun s_12 => ((m25 n (R24.mk a0.Gq.Pq a0.Gq.Bq) s_12).bind fun y_13 => ((getIdx a0.Path x_10).bind fun y_14 => ((m57 n y_13 y_14).bind fun y_15 => (if (!y_15) = true then (some false) else (letM ((IntKind.wrap .i64 (x_10 + (1 : Int)))) fun t3_16 => (nx_11 t3_16))))))) else (k_18 ()))
def m60 (n : Nat) (a0 : R75) : Option Bool :=
  ((m8 n (R24.mk a0.Gq.Pq a0.Gq.Bq)).bind fun y_1 => ((gdO (!(((!y_1) || (decide ((a0.Path.length : Int) = (0 : Int)))) || (decide ((a0.Gq.Pq.length : Int) < (a0.Path.length : Int))))) (getIdx a0.Path (0 : Int)) default).bind fun y_2 => (letM (((((((!y_1) || (decide ((a0.Path.length : Int) = (0 : Int)))) || (decide ((a0.Gq.Pq.length : Int) < (a0.Path.length : Int)))) || (!decide (y_2 = (0 : Int)))) || (decide (a0.Ln < (-1073741824 : Int)))) || (decide ((1073741824 : Int) < a0.Ln)))) fun t40_3 => (if t40_3 = true then (some false) else (jn (fun p_17 : Unit => (some true)) fun k_18 => (loopM (m60_L1 n a0 k_18) n (1 : Int)))))))
def m96 (n : Nat) (a0 : Int) : Option Bool :=
  (some ((decide ((-1073741824 : Int) ≤ a0)) && (decide (a0 ≤ (1073741824 : Int)))))
def m84_L2 (n : Nat) (a0 : R41) (rc_0 : R41 → Option Bool) (k_24 : Unit → Option Bool) (nx_19 : Int → Option Bool) (x_18 : Int) : Option Bool :=
  (if (decide (x_18 < (a0.Kd.length : Int))) = true then ((getIdx a0.Kd x_18).bind fun y_20 => ((rc_0 (R41.mk y_20.out.Sp y_20.out.Kd y_20.out.Lf)).bind fun y_21 => (if (!y_21) = true then (some false) else (letM ((IntKind.wrap .i64 (x_18 + (1 : Int)))) fun t4_22 => (nx_19 t4_22))))) else (k_24 ()))
def m84_L1 (n : Nat) (a0 : R41) (k_13 : Unit → Option Bool) (nx_8 : Int → Option Bool) (x_7 : Int) : Option Bool :=
  (if (decide (x_7 < (a0.Lf.length : Int))) = true then ((getIdx a0.Lf x_7).bind fun y_9 => ((m96 n y_9).bind fun y_10 => (if (!y_10) = true then (some false) else (letM ((IntKind.wrap .i64 (x_7 + (1 : Int)))) fun t3_11 => (nx_8 t3_11))))) else (k_13 ()))
def m84B (n : Nat) (rc_0 : R41 → Option Bool) (a0 : R41) : Option Bool :=
  ((m96 n a0.Sp).bind fun y_1 => (letM ((((((!y_1) || (decide ((100 : Int) < (a0.Kd.length : Int)))) || (decide ((40 : Int) < (a0.Lf.length : Int)))) || ((decide ((0 : Int) < (a0.Kd.length : Int))) && (decide ((0 : Int) < (a0.Lf.length : Int))))) || ((decide ((a0.Kd.length : Int) = (0 : Int))) && (!decide (a0.Sp = (0 : Int)))))) fun t43_2 => (if t43_2 = true then (some false) else (jn (fun p_12 : Unit => (jn (fun p_23 : Unit => (some true)) fun k_24 => (loopM (m84_L2 n a0 rc_0 k_24) n (0 : Int)))) fun k_13 => (loopM (m84_L1 n a0 k_13) n (0 : Int))))))
def m84F (n : Nat) : Nat → R41 → Option Bool
  | 0 => fun _ => none
  | f + 1 => m84B n (m84F n f)
def m84 (n : Nat) (a0 : R41) : Option Bool := m84F n n a0
def m85_L1 (n : Nat) (a0 : R41) (rc_0 : R41 → Option Int) (k_13 : Int → Option Int) (nx_7 : (Int × Int) → Option Int) (x_6 : (Int × Int)) : Option Int :=
  (if (decide (x_6.2 < (a0.Kd.length : Int))) = true then ((getIdx a0.Kd x_6.2).bind fun y_8 => ((rc_0 (R41.mk y_8.out.Sp y_8.out.Kd y_8.out.Lf)).bind fun y_9 => (letM ((IntKind.wrap .i64 (x_6.1 + y_9))) fun t3_10 => (letM ((IntKind.wrap .i64 (x_6.2 + (1 : Int)))) fun t4_11 => (nx_7 (t3_10,t4_11)))))) else (k_13 x_6.1))
def m85B (n : Nat) (rc_0 : R41 → Option Int) (a0 : R41) : Option Int :=
  (jn (fun p_12 : Int => (some p_12)) fun k_13 => (loopM (m85_L1 n a0 rc_0 k_13) n ((1 : Int),(0 : Int))))
def m85F (n : Nat) : Nat → R41 → Option Int
  | 0 => fun _ => none
  | f + 1 => m85B n (m85F n f)
def m85 (n : Nat) (a0 : R41) : Option Int := m85F n n a0
def m86_L1 (n : Nat) (a0 : R41) (rc_0 : R41 → Option Int) (k_13 : Int → Option Int) (nx_7 : (Int × Int) → Option Int) (x_6 : (Int × Int)) : Option Int :=
  (if (decide (x_6.2 < (a0.Kd.length : Int))) = true then ((getIdx a0.Kd x_6.2).bind fun y_8 => ((rc_0 (R41.mk y_8.out.Sp y_8.out.Kd y_8.out.Lf)).bind fun y_9 => (letM ((if y_9 > x_6.1 then y_9 else x_6.1)) fun t3_10 => (letM ((IntKind.wrap .i64 (x_6.2 + (1 : Int)))) fun t4_11 => (nx_7 (t3_10,t4_11)))))) else (k_13 x_6.1))
def m86B (n : Nat) (rc_0 : R41 → Option Int) (a0 : R41) : Option Int :=
  (jn (fun p_12 : Int => (letM ((IntKind.wrap .i64 (p_12 + (1 : Int)))) fun t2_14 => (some t2_14))) fun k_13 => (loopM (m86_L1 n a0 rc_0 k_13) n ((0 : Int),(0 : Int))))
def m86F (n : Nat) : Nat → R41 → Option Int
  | 0 => fun _ => none
  | f + 1 => m86B n (m86F n f)
def m86 (n : Nat) (a0 : R41) : Option Int := m86F n n a0
def m61 (n : Nat) (a0 : R41) : Option Bool :=
  ((m84 n (R41.mk a0.Sp a0.Kd a0.Lf)).bind fun y_1 => ((gdO y_1 (m85 n (R41.mk a0.Sp a0.Kd a0.Lf)) default).bind fun y_2 => ((gdO (y_1 && (decide (y_2 ≤ (2000 : Int)))) (m86 n (R41.mk a0.Sp a0.Kd a0.Lf)) default).bind fun y_3 => (some ((y_1 && (decide (y_2 ≤ (2000 : Int)))) && (decide (y_3 ≤ (40 : Int))))))))
def m97_L1 (n : Nat) (a1 : (List Int)) (k_11 : Unit → Option Bool) (nx_6 : Int → Option Bool) (x_5 : Int) : Option Bool :=
  (if (decide (x_5 < (a1.length : Int))) = true then ((getIdx a1 x_5).bind fun y_7 => ((gdO (!(decide (y_7 < (-20000 : Int)))) (getIdx a1 x_5) default).bind fun y_8 => (if ((decide (y_7 < (-20000 : Int))) || (decide ((20000 : Int) < y_8))) = true then (some false) else (letM ((IntKind.wrap .i64 (x_5 + (1 : Int)))) fun t5_9 => (nx_6 t5_9))))) else (k_11 ()))
def m97 (n : Nat) (a0 : R24) (a1 : (List Int)) : Option Bool :=
  (jn (fun p_10 : Unit => (some (decide ((a1.length : Int) = (a0.Pq.length : Int))))) fun k_11 => (loopM (m97_L1 n a1 k_11) n (0 : Int)))
def m106 (n : Nat) (a0 : R24) (a1 : (List Int)) (a2 : Int) (a3 : Int) : Option Int :=
  ((getIdx a0.Pq a2).bind fun y_1 => ((getIdx a0.Pq a3).bind fun y_2 => ((m83 n (R50.mk y_1.X y_1.Y) (R50.mk y_2.X y_2.Y)).bind fun y_3 => ((getIdx a1 a2).bind fun y_4 => ((getIdx a1 a3).bind fun y_5 => (letM ((IntKind.wrap .i64 ((IntKind.wrap .i64 (y_3 + y_4)) + y_5))) fun t8_6 => (some t8_6)))))))
def m104_L13 (n : Nat) (a0 : R24) (a1 : (List Int)) (a2 : (List Int)) (x_223 : Int × (List Int)) (x_293 : Int × Int × Bool × Int) (k_327 : (Int × Int × Bool) → Option Int) (nx_316 : (Int × Int × Bool × Int) → Option Int) (x_315 : (Int × Int × Bool × Int)) : Option Int :=
  ((gdO (decide (x_315.2.2.2 < (x_223.2.length : Int))) (getIdx a2 x_293.2.2.2) default).bind fun y_317 => ((gdO (decide (x_315.2.2.2 < (x_223.2.length : Int))) (m57 n x_223.2 y_317) default).bind fun y_318 => (if ((decide (x_315.2.2.2 < (x_223.2.length : Int))) && (!y_318)) = true then ((getIdx a2 x_293.2.2.2).bind fun y_319 => ((getIdx x_223.2 x_315.2.2.2).bind fun y_320 => ((m106 n (R24.mk a0.Pq a0.Bq) a1 y_319 y_320).bind fun y_321 => (jn (fun p_323 : Int × Int × Bool => (letM ((IntKind.wrap .i64 (x_315.2.2.2 + (1 : Int)))) fun t13_325 => (nx_316 (p_323.1,p_323.2.1,p_323.2.2,t13_325)))) fun k_324 => (if (x_315.2.2.1 || (decide (y_321 < x_315.1))) = true then ((getIdx a2 x_293.2.2.2).bind fun y_322 => (k_324 (y_321,y_322,false))) else (k_324 (x_315.1,x_315.2.1,x_315.2.2.1))))))) else (k_327 (x_315.1,x_315.2.1,x_315.2.2.1)))))
def m104_L12 (n : Nat) (a0 : R24) (a1 : (List Int)) (a2 : (List Int)) (x_223 : Int × (List Int)) (k_330 : (Int × Int) → Option Int) (nx_294 : (Int × Int × Bool × Int) → Option Int) (x_293 : (Int × Int × Bool × Int)) : Option Int :=
  (if (decide (x_293.2.2.2 < (a2.length : Int))) = true then (jn (fun p_326 : Int × Int × Bool => (letM ((IntKind.wrap .i64 (x_293.2.2.2 + (1 : Int)))) fun t12_328 => (nx_294 (p_326.1,p_326.2.1,p_326.2.2,t12_328)))) fun k_327 => (loopM (m104_L13 n a0 a1 a2 x_223 x_293 k_327) n (x_293.1,x_293.2.1,x_293.2.2.1,(0 : Int)))) else (k_330 (x_293.1,x_293.2.1)))
def m104_L9 (n : Nat) (a0 : R24) (a1 : (List Int)) (a2 : (List Int)) (k_334 : Int → Option Int) (nx_224 : (Int × (List Int)) → Option Int) (x_223 : (Int × (List Int))) : Option Int :=
  (if (decide ((x_223.2.length : Int) < (a2.length : Int))) = true then (jn (fun p_329 : Int × Int => (letM ((IntKind.wrap .i64 (x_223.1 + p_329.1))) fun t8_331 => ((apd x_223.2 ([p_329.2] : List Int)).bind fun l2_332 => (nx_224 (t8_331,l2_332))))) fun k_330 => (loopM (m104_L12 n a0 a1 a2 x_223 k_330) n ((0 : Int),(0 : Int),true,(0 : Int)))) else (k_334 x_223.1))
def m104 (n : Nat) (a0 : R24) (a1 : (List Int)) (a2 : (List Int)) : Option Int :=
  (jn (fun p_3 : (List Int) => (jn (fun p_333 : Int => (some p_333)) fun k_334 => (loopM (m104_L9 n a0 a1 a2 k_334) n ((0 : Int),p_3)))) fun k_4 => (if (decide ((0 : Int) < (a2.length : Int))) = true then ((getIdx a2 (0 : Int)).bind fun y_1 => ((apd ([] : List Int) ([y_1] : List Int)).bind fun l2_2 => (k_4 l2_2))) else (k_4 ([] : List Int))))
def m103_L2 (n : Nat) (a0 : R24) (a1 : (List Int)) (k_60 : Int → Option (Int × Int)) (nx_55 : (Int × Int) → Option (Int × Int)) (x_54 : (Int × Int)) : Option (Int × Int) :=
  (if (decide (x_54.2 < (a0.Pq.length : Int))) = true then ((getIdx a1 x_54.2).bind fun y_56 => (letM ((IntKind.wrap .i64 (x_54.1 + y_56))) fun t10_57 => (letM ((IntKind.wrap .i64 (x_54.2 + (1 : Int)))) fun t13_58 => (nx_55 (t10_57,t13_58))))) else (k_60 x_54.1))
def m103_L1 (n : Nat) (a0 : R24) (a1 : (List Int)) (k_49 : (Int × Int × (List Int)) → Option (Int × Int)) (nx_36 : (Int × Int × Int × (List Int)) → Option (Int × Int)) (x_35 : (Int × Int × Int × (List Int))) : Option (Int × Int) :=
  (if (decide (x_35.2.2.1 < (a0.Pq.length : Int))) = true then ((apd x_35.2.2.2 ([x_35.2.2.1] : List Int)).bind fun l2_37 => ((m106 n (R24.mk a0.Pq a0.Bq) a1 (0 : Int) x_35.2.2.1).bind fun y_38 => (jn (fun p_45 : Int × Int => (letM ((IntKind.wrap .i64 (x_35.2.2.1 + (1 : Int)))) fun t11_47 => (nx_36 (p_45.1,p_45.2,t11_47,l2_37)))) fun k_46 => (if (decide (x_35.2.2.1 < (3 : Int))) = true then (k_46 (x_35.1,x_35.2.1)) else ((m106 n (R24.mk a0.Pq a0.Bq) a1 (0 : Int) x_35.1).bind fun y_39 => (jn (fun p_43 : Int × Int => (k_46 (p_43.1,p_43.2))) fun k_44 => (if (decide (y_38 < y_39)) = true then (k_44 (x_35.2.2.1,x_35.1)) else ((m106 n (R24.mk a0.Pq a0.Bq) a1 (0 : Int) x_35.2.1).bind fun y_40 => (jn (fun p_41 : Int => (k_44 (x_35.1,p_41))) fun k_42 => (if (decide (y_38 < y_40)) = true then (k_42 x_35.2.2.1) else (k_42 x_35.2.1))))))))))) else (k_49 (x_35.1,x_35.2.1,x_35.2.2.2)))
def m103 (n : Nat) (a0 : R24) (a1 : (List Int)) : Option (Int × Int) :=
  ((m8 n (R24.mk a0.Pq a0.Bq)).bind fun y_1 => (if (!y_1) = true then (some ((0 : Int),(1 : Int))) else ((m97 n (R24.mk a0.Pq a0.Bq) a1).bind fun y_2 => (if (!y_2) = true then (some ((0 : Int),(2 : Int))) else (if (decide ((a0.Pq.length : Int) < (3 : Int))) = true then ((getIdx a0.Pq (0 : Int)).bind fun y_3 => ((getIdx a0.Pq (IntKind.wrap .i64 ((a0.Pq.length : Int) - (1 : Int)))).bind fun y_4 => ((m83 n (R50.mk y_3.X y_3.Y) (R50.mk y_4.X y_4.Y)).bind fun y_5 => (letM ((IntKind.wrap .i64 ((2 : Int) * y_5))) fun t4_6 => (some (t4_6,(0 : Int))))))) else ((m106 n (R24.mk a0.Pq a0.Bq) a1 (0 : Int) (2 : Int)).bind fun y_7 => ((m106 n (R24.mk a0.Pq a0.Bq) a1 (0 : Int) (1 : Int)).bind fun y_8 => (jn (fun p_9 : Int × Int => (jn (fun p_48 : Int × Int × (List Int) => (jn (fun p_59 : Int => ((m104 n (R24.mk a0.Pq a0.Bq) a1 p_48.2.2).bind fun y_61 => ((m106 n (R24.mk a0.Pq a0.Bq) a1 (0 : Int) p_48.1).bind fun y_62 => ((m106 n (R24.mk a0.Pq a0.Bq) a1 (0 : Int) p_48.2.1).bind fun y_63 => (letM ((IntKind.wrap .i64 ((IntKind.wrap .i64 ((IntKind.wrap .i64 (y_61 + y_62)) + y_63)) - (IntKind.wrap .i64 ((2 : Int) * p_59))))) fun t4_64 => (some (t4_64,(0 : Int)))))))) fun k_60 => (loopM (m103_L2 n a0 a1 k_60) n ((0 : Int),(0 : Int))))) fun k_49 => (loopM (m103_L1 n a0 a1 k_49) n (p_9.1,p_9.2,(1 : Int),([] : List Int))))) fun k_10 => (if (decide (y_7 < y_8)) = true then (k_10 ((2 : Int),(1 : Int))) else (k_10 ((1 : Int),(2 : Int))))))))))))
def m98_L1 (n : Nat) (a0 : R75) (a1 : (List Int)) (k_34 : (Int × (List Int)) → Option Int) (nx_25 : (Int × Int × (List Int)) → Option Int) (x_24 : (Int × Int × (List Int))) : Option Int :=
  (if (decide (x_24.2.1 < (a0.Gq.Pq.length : Int))) = true then ((m57 n a0.Path x_24.2.1).bind fun y_26 => (jn (fun p_30 : Int × (List Int) => (letM ((IntKind.wrap .i64 (x_24.2.1 + (1 : Int)))) fun t11_32 => (nx_25 (p_30.1,t11_32,p_30.2)))) fun k_31 => (if (!y_26) = true then ((apd x_24.2.2 ([x_24.2.1] : List Int)).bind fun l3_27 => ((getIdx a1 x_24.2.1).bind fun y_28 => (letM ((IntKind.wrap .i64 (x_24.1 + (IntKind.wrap .i64 ((2 : Int) * y_28))))) fun t10_29 => (k_31 (t10_29,l3_27))))) else (k_31 (x_24.1,x_24.2.2))))) else (k_34 (x_24.1,x_24.2.2)))
def m98 (n : Nat) (a0 : R75) (a1 : (List Int)) : Option Int :=
  (if (decide ((a0.Path.length : Int) = (a0.Gq.Pq.length : Int))) = true then ((m59 n (R24.mk a0.Gq.Pq a0.Gq.Bq) a0.Path).bind fun y_1 => (some y_1)) else (if (decide ((a0.Path.length : Int) = (1 : Int))) = true then ((m103 n (R24.mk a0.Gq.Pq a0.Gq.Bq) a1).bind fun y_2 => (some y_2.1)) else ((getIdx a0.Path (IntKind.wrap .i64 ((a0.Path.length : Int) - (1 : Int)))).bind fun y_3 => (letM (([y_3,(0 : Int)] : List Int)) fun l3_4 => ((getIdx a1 y_3).bind fun y_5 => ((getIdx a1 (0 : Int)).bind fun y_6 => (letM ((IntKind.wrap .i64 (y_5 + y_6))) fun t10_7 => (jn (fun p_33 : Int × (List Int) => ((m82 n (R24.mk a0.Gq.Pq a0.Gq.Bq) a0.Path).bind fun y_35 => ((m104 n (R24.mk a0.Gq.Pq a0.Gq.Bq) a1 p_33.2).bind fun y_36 => (letM ((IntKind.wrap .i64 ((IntKind.wrap .i64 (y_35 + y_36)) - p_33.1))) fun t4_37 => (some t4_37))))) fun k_34 => (loopM (m98_L1 n a0 a1 k_34) n (t10_7,(0 : Int),l3_4))))))))))
def m87 (n : Nat) (a0 : R75) (a1 : (List Int)) : Option Bool :=
  ((m60 n (R75.mk (R24.mk a0.Gq.Pq a0.Gq.Bq) a0.Path a0.Ln)).bind fun y_1 => ((gdO y_1 (m97 n (R24.mk a0.Gq.Pq a0.Gq.Bq) a1) default).bind fun y_2 => ((gdO (y_1 && y_2) (m98 n (R75.mk (R24.mk a0.Gq.Pq a0.Gq.Bq) a0.Path a0.Ln) a1) default).bind fun y_3 => (some ((y_1 && y_2) && (decide (a0.Ln ≤ y_3)))))))
def m88_L1 (n : Nat) (a0 : R75) (y_2 : (List Int)) (k_23 : (List R75) → Option ((List R75) × Bool)) (nx_16 : (Int × (List R75)) → Option ((List R75) × Bool)) (x_15 : (Int × (List R75))) : Option ((List R75) × Bool) :=
  (if (decide (x_15.1 < (y_2.length : Int))) = true then ((apd ([] : List Int) a0.Path).bind fun l3_17 => ((getIdx y_2 x_15.1).bind fun y_18 => ((apd l3_17 ([y_18] : List Int)).bind fun l3_19 => ((apd x_15.2 ([(R75.mk (R24.mk a0.Gq.Pq a0.Gq.Bq) l3_19 a0.Ln)] : List R75)).bind fun l2_20 => (letM ((IntKind.wrap .i64 (x_15.1 + (1 : Int)))) fun t8_21 => (nx_16 (t8_21,l2_20))))))) else (k_23 x_15.2))
def m88 (n : Nat) (a0 : R75) (a1 : Int) : Option ((List R75) × Bool) :=
  ((m60 n (R75.mk (R24.mk a0.Gq.Pq a0.Gq.Bq) a0.Path a0.Ln)).bind fun y_1 => (if (((!y_1) || (!decide (a1 = (0 : Int)))) || (decide ((a0.Path.length : Int) = (a0.Gq.Pq.length : Int)))) = true then (some (([] : List R75),false)) else ((m25 n (R24.mk a0.Gq.Pq a0.Gq.Bq) a0.Path).bind fun y_2 => (jn (fun p_22 : (List R75) => (some (p_22,true))) fun k_23 => (loopM (m88_L1 n a0 y_2 k_23) n ((0 : Int),([] : List R75)))))))
def m62_L1 (n : Nat) (a1 : R41) (rc_0 : R75 → R41 → Option ((List Int) × Bool)) (y_2 : ((List R75) × Bool)) (k_17 : Unit → Option ((List Int) × Bool)) (nx_10 : Int → Option ((List Int) × Bool)) (x_9 : Int) : Option ((List Int) × Bool) :=
  (if (decide (x_9 < (y_2.1.length : Int))) = true then ((getIdx y_2.1 x_9).bind fun y_11 => ((getIdx a1.Kd x_9).bind fun y_12 => ((rc_0 (R75.mk (R24.mk y_11.Gq.Pq y_11.Gq.Bq) y_11.Path y_11.Ln) (R41.mk y_12.out.Sp y_12.out.Kd y_12.out.Lf)).bind fun y_13 => (if y_13.2 = true then ((apd ([x_9] : List Int) y_13.1).bind fun l3_14 => (some (l3_14,true))) else (letM ((IntKind.wrap .i64 (x_9 + (1 : Int)))) fun t8_15 => (nx_10 t8_15)))))) else (k_17 ()))
def m62B (n : Nat) (rc_0 : R75 → R41 → Option ((List Int) × Bool)) (a0 : R75) (a1 : R41) : Option ((List Int) × Bool) :=
  (if (decide ((a1.Kd.length : Int) = (0 : Int))) = true then ((m87 n (R75.mk (R24.mk a0.Gq.Pq a0.Gq.Bq) a0.Path a0.Ln) a1.Lf).bind fun y_1 => (some (([] : List Int),(!y_1)))) else ((m88 n (R75.mk (R24.mk a0.Gq.Pq a0.Gq.Bq) a0.Path a0.Ln) a1.Sp).bind fun y_2 => (if ((!y_2.2) || (!decide ((y_2.1.length : Int) = (a1.Kd.length : Int)))) = true then (some (([] : List Int),true)) else (jn (fun p_16 : Unit => (some (([] : List Int),false))) fun k_17 => (loopM (m62_L1 n a1 rc_0 y_2 k_17) n (0 : Int))))))
def m62F (n : Nat) : Nat → R75 → R41 → Option ((List Int) × Bool)
  | 0 => fun _ _ => none
  | f + 1 => m62B n (m62F n f)
def m62 (n : Nat) (a0 : R75) (a1 : R41) : Option ((List Int) × Bool) := m62F n n a0 a1
def m27 (n : Nat) (a0 : R75) (a1 : R41) : Option ((List Int) × Int) :=
  ((m60 n (R75.mk (R24.mk a0.Gq.Pq a0.Gq.Bq) a0.Path a0.Ln)).bind fun y_1 => ((gdO (!(!y_1)) (m61 n (R41.mk a1.Sp a1.Kd a1.Lf)) default).bind fun y_2 => (if ((!y_1) || (!y_2)) = true then (some (([] : List Int),(1 : Int))) else ((m62 n (R75.mk (R24.mk a0.Gq.Pq a0.Gq.Bq) a0.Path a0.Ln) (R41.mk a1.Sp a1.Kd a1.Lf)).bind fun y_3 => (if y_3.2 = true then (some (y_3.1,(21 : Int))) else (some (([] : List Int),(0 : Int))))))))
def m9 (n : Nat) (a0 : R24) (a1 : R44) : Option Bool :=
  ((m26 n (R24.mk a0.Pq a0.Bq) a1.Order).bind fun y_1 => (if ((!decide (y_1.2 = (0 : Int))) || (!decide (y_1.1 = a1.Ln))) = true then (some false) else ((m27 n (R75.mk (R24.mk a0.Pq a0.Bq) ([(0 : Int)] : List Int) y_1.1) (R41.mk a1.Proof.Sp a1.Proof.Kd a1.Proof.Lf)).bind fun y_2 => (some (decide (y_2.2 = (0 : Int)))))))
def m28 (n : Nat) (a0 : R24) (a1 : (List Int)) : Option (Int × Int) :=
  ((m16 n (R24.mk a0.Pq a0.Bq)).bind fun y_1 => (if (!y_1) = true then (some ((0 : Int),(1 : Int))) else ((m42 n (R24.mk a0.Pq a0.Bq) a1).bind fun y_2 => (if (!y_2) = true then (some ((0 : Int),(22 : Int))) else ((m19 n (R24.mk a0.Pq a0.Bq) a1).bind fun y_3 => (some (y_3,(0 : Int))))))))
def m30_L1 (n : Nat) (a0 : R30) (rc_0 : R30 → Option Int) (k_13 : Int → Option Int) (nx_7 : (Int × Int) → Option Int) (x_6 : (Int × Int)) : Option Int :=
  (if (decide (x_6.2 < (a0.Kd.length : Int))) = true then ((getIdx a0.Kd x_6.2).bind fun y_8 => ((rc_0 (R30.mk y_8.out.Sp y_8.out.Kd y_8.out.Lf)).bind fun y_9 => (letM ((IntKind.wrap .i64 (x_6.1 + y_9))) fun t3_10 => (letM ((IntKind.wrap .i64 (x_6.2 + (1 : Int)))) fun t9_11 => (nx_7 (t3_10,t9_11)))))) else (k_13 x_6.1))
def m30B (n : Nat) (rc_0 : R30 → Option Int) (a0 : R30) : Option Int :=
  (jn (fun p_12 : Int => (some p_12)) fun k_13 => (loopM (m30_L1 n a0 rc_0 k_13) n ((1 : Int),(0 : Int))))
def m30F (n : Nat) : Nat → R30 → Option Int
  | 0 => fun _ => none
  | f + 1 => m30B n (m30F n f)
def m30 (n : Nat) (a0 : R30) : Option Int := m30F n n a0
def m31_L1 (n : Nat) (a0 : R30) (rc_0 : R30 → Option Int) (k_13 : Int → Option Int) (nx_7 : (Int × Int) → Option Int) (x_6 : (Int × Int)) : Option Int :=
  (if (decide (x_6.2 < (a0.Kd.length : Int))) = true then ((getIdx a0.Kd x_6.2).bind fun y_8 => ((rc_0 (R30.mk y_8.out.Sp y_8.out.Kd y_8.out.Lf)).bind fun y_9 => (letM ((if y_9 > x_6.1 then y_9 else x_6.1)) fun t3_10 => (letM ((IntKind.wrap .i64 (x_6.2 + (1 : Int)))) fun t9_11 => (nx_7 (t3_10,t9_11)))))) else (k_13 x_6.1))
def m31B (n : Nat) (rc_0 : R30 → Option Int) (a0 : R30) : Option Int :=
  (jn (fun p_12 : Int => (letM ((IntKind.wrap .i64 (p_12 + (1 : Int)))) fun t2_14 => (some t2_14))) fun k_13 => (loopM (m31_L1 n a0 rc_0 k_13) n ((0 : Int),(0 : Int))))
def m31F (n : Nat) : Nat → R30 → Option Int
  | 0 => fun _ => none
  | f + 1 => m31B n (m31F n f)
def m31 (n : Nat) (a0 : R30) : Option Int := m31F n n a0
def m66 (n : Nat) (rc_0 : R30 → Option Bool) (a0 : R30) : Option Bool :=
  ((rc_0 (R30.mk a0.Sp a0.Kd a0.Lf)).bind fun y_1 => (some (!y_1)))
def m90x1_L1 (n : Nat) (a0 : (List K30)) (rc_0 : R30 → Option Bool) (k_11 : Unit → Option Int) (nx_6 : Int → Option Int) (x_5 : Int) : Option Int :=
  (if (decide (x_5 < (a0.length : Int))) = true then ((getIdx a0 x_5).bind fun y_7 => ((m66 n rc_0 (R30.mk y_7.out.Sp y_7.out.Kd y_7.out.Lf)).bind fun y_8 => (if y_8 = true then (some x_5) else (letM ((IntKind.wrap .i64 (x_5 + (1 : Int)))) fun t8_9 => (nx_6 t8_9))))) else (k_11 ()))
def m90x1 (n : Nat) (rc_0 : R30 → Option Bool) (a0 : (List K30)) : Option Int :=
  (jn (fun p_10 : Unit => (some (-1 : Int))) fun k_11 => (loopM (m90x1_L1 n a0 rc_0 k_11) n (0 : Int)))
def m65x1 (n : Nat) (rc_0 : R30 → Option Bool) (a0 : (List K30)) : Option Bool :=
  ((m90x1 n rc_0 a0).bind fun y_1 => (some (decide ((0 : Int) ≤ y_1))))
def m32B (n : Nat) (rc_0 : R30 → Option Bool) (a0 : R30) : Option Bool :=
  ((m51 n (R30.mk a0.Sp a0.Kd a0.Lf)).bind fun y_1 => ((gdO y_1 (m65x1 n rc_0 a0.Kd) default).bind fun y_2 => (some (y_1 && (!y_2)))))
def m32F (n : Nat) : Nat → R30 → Option Bool
  | 0 => fun _ => none
  | f + 1 => m32B n (m32F n f)
def m32 (n : Nat) (a0 : R30) : Option Bool := m32F n n a0
def m12 (n : Nat) (a0 : R30) : Option Bool :=
  ((m30 n (R30.mk a0.Sp a0.Kd a0.Lf)).bind fun y_1 => ((gdO (decide (y_1 ≤ (2000 : Int))) (m31 n (R30.mk a0.Sp a0.Kd a0.Lf)) default).bind fun y_2 => ((gdO ((decide (y_1 ≤ (2000 : Int))) && (decide (y_2 ≤ (40 : Int)))) (m32 n (R30.mk a0.Sp a0.Kd a0.Lf)) default).bind fun y_3 => (some (((decide (y_1 ≤ (2000 : Int))) && (decide (y_2 ≤ (40 : Int)))) && y_3)))))
def m64 (n : Nat) (a0 : R64) (a1 : (List Int)) : Option Bool :=
  ((m53 n (R64.mk (R24.mk a0.Gq.Pq a0.Gq.Bq) a0.Path a0.Ln)).bind fun y_1 => ((gdO y_1 (m34 n (R24.mk a0.Gq.Pq a0.Gq.Bq) a1) default).bind fun y_2 => ((gdO (y_1 && y_2) (m24 n (R64.mk (R24.mk a0.Gq.Pq a0.Gq.Bq) a0.Path a0.Ln) a1) default).bind fun y_3 => (some ((y_1 && y_2) && (decide (a0.Ln ≤ y_3)))))))
def m89_L1 (n : Nat) (a1 : R30) (rc_0 : R64 → R30 → (List Int) → Option (Bool × (List Int))) (y_2 : ((List R64) × Bool)) (k_26 : (List Int) → Option (Bool × (List Int))) (nx_18 : (Int × (List Int)) → Option (Bool × (List Int))) (x_17 : (Int × (List Int))) : Option (Bool × (List Int)) :=
  (if (decide (x_17.1 < (a1.Kd.length : Int))) = true then ((getIdx a1.Kd x_17.1).bind fun y_19 => ((apd x_17.2 ([x_17.1] : List Int)).bind fun l4_20 => ((getIdx y_2.1 x_17.1).bind fun y_21 => ((rc_0 (R64.mk (R24.mk y_21.Gq.Pq y_21.Gq.Bq) y_21.Path y_21.Ln) (R30.mk y_19.out.Sp y_19.out.Kd y_19.out.Lf) l4_20).bind fun y_22 => (if y_22.1 = true then (some (true,y_22.2)) else ((slc y_22.2 (0 : Int) (IntKind.wrap .i64 ((y_22.2.length : Int) - (1 : Int)))).bind fun l4_23 => (letM ((IntKind.wrap .i64 (x_17.1 + (1 : Int)))) fun t44_24 => (nx_18 (t44_24,l4_23))))))))) else (k_26 x_17.2))
def m89B (n : Nat) (rc_0 : R64 → R30 → (List Int) → Option (Bool × (List Int))) (a0 : R64) (a1 : R30) (a4_b0_b : (List Int)) : Option (Bool × (List Int)) :=
  (if (decide ((a1.Kd.length : Int) = (0 : Int))) = true then ((m64 n (R64.mk (R24.mk a0.Gq.Pq a0.Gq.Bq) a0.Path a0.Ln) a1.Lf).bind fun y_1 => (some ((!y_1),a4_b0_b))) else ((m22 n (R64.mk (R24.mk a0.Gq.Pq a0.Gq.Bq) a0.Path a0.Ln) a1.Sp).bind fun y_2 => (if ((!y_2.2) || (!decide ((y_2.1.length : Int) = (a1.Kd.length : Int)))) = true then (some (true,a4_b0_b)) else (jn (fun p_25 : (List Int) => (some (false,p_25))) fun k_26 => (loopM (m89_L1 n a1 rc_0 y_2 k_26) n ((0 : Int),a4_b0_b))))))
def m89F (n : Nat) : Nat → R64 → R30 → (List Int) → Option (Bool × (List Int))
  | 0 => fun _ _ _ => none
  | f + 1 => m89B n (m89F n f)
def m89 (n : Nat) (a0 : R64) (a1 : R30) (a4_b0_b : (List Int)) : Option (Bool × (List Int)) := m89F n n a0 a1 a4_b0_b
def m63 (n : Nat) (a0 : R64) (a1 : R30) : Option ((List Int) × Int) :=
  ((m12 n (R30.mk a1.Sp a1.Kd a1.Lf)).bind fun y_1 => (if (!y_1) = true then (some (([] : List Int),(1 : Int))) else ((m89 n (R64.mk (R24.mk a0.Gq.Pq a0.Gq.Bq) a0.Path a0.Ln) (R30.mk a1.Sp a1.Kd a1.Lf) ([] : List Int)).bind fun y_2 => (if y_2.1 = true then (some (y_2.2,(21 : Int))) else (some (([] : List Int),(0 : Int)))))))
def m29 (n : Nat) (a0 : R64) (a1 : R30) : Option ((List Int) × Int) :=
  ((m53 n (R64.mk (R24.mk a0.Gq.Pq a0.Gq.Bq) a0.Path a0.Ln)).bind fun y_1 => (if (!y_1) = true then (some (([] : List Int),(1 : Int))) else ((m63 n (R64.mk (R24.mk a0.Gq.Pq a0.Gq.Bq) a0.Path a0.Ln) (R30.mk a1.Sp a1.Kd a1.Lf)).bind fun y_2 => (some (y_2.1,y_2.2)))))
def m11 (n : Nat) (a0 : R24) (a1 : R32) : Option Bool :=
  ((m28 n (R24.mk a0.Pq a0.Bq) a1.Order).bind fun y_1 => (if ((!decide (y_1.2 = (0 : Int))) || (!decide (y_1.1 = a1.Ln))) = true then (some false) else ((m29 n (R64.mk (R24.mk a0.Pq a0.Bq) ([(0 : Int)] : List Int) y_1.1) (R30.mk a1.Proof.Sp a1.Proof.Kd a1.Proof.Lf)).bind fun y_2 => (some (decide (y_2.2 = (0 : Int)))))))
def m3 (n : Nat) (a0 : R24) : Option Bool :=
  ((m4 n).bind fun y_1 => ((gdO (!(!y_1)) (m5 n (R24.mk a0.Pq a0.Bq)) default).bind fun y_2 => (if ((!y_1) || (!y_2)) = true then ((m4 n).bind fun y_3 => (some y_3)) else ((m7 n (R24.mk a0.Pq a0.Bq)).bind fun y_4 => ((m6 n y_4).bind fun y_5 => ((m8 n (R24.mk a0.Pq a0.Bq)).bind fun y_6 => (if (!y_6) = true then (some ((decide (y_5.2 = (1 : Int))) && (decide ((y_5.1.Order.length : Int) = (0 : Int))))) else (if (!decide (y_5.2 = (0 : Int))) = true then (some (((decide (y_5.2 = (9 : Int))) && (decide ((6 : Int) < (a0.Pq.length : Int)))) && (decide ((y_5.1.Order.length : Int) = (0 : Int))))) else ((m10 n (R30.mk y_5.1.Proof.Sp y_5.1.Proof.Kd y_5.1.Proof.Lf)).bind fun y_7 => ((m9 n (R24.mk a0.Pq a0.Bq) (R44.mk y_5.1.Order y_5.1.Ln (R41.mk y_7.Sp y_7.Kd y_7.Lf))).bind fun y_8 => ((gdO (!(!y_8)) (m7 n (R24.mk a0.Pq a0.Bq)) default).bind fun y_9 => ((gdO (!(!y_8)) (m11 n y_9 (R32.mk y_5.1.Order y_5.1.Ln (R30.mk y_5.1.Proof.Sp y_5.1.Proof.Kd y_5.1.Proof.Lf))) default).bind fun y_10 => ((gdO (!((!y_8) || (!y_10))) (m12 n (R30.mk y_5.1.Proof.Sp y_5.1.Proof.Kd y_5.1.Proof.Lf)) default).bind fun y_11 => (if (((!y_8) || (!y_10)) || (!y_11)) = true then (some false) else ((m7 n (R24.mk a0.Pq a0.Bq)).bind fun y_12 => ((m13 n y_12).bind fun y_13 => (some ((decide (y_13.2.2 = (9 : Int))) || ((decide (y_13.2.2 = (0 : Int))) && (decide (y_13.2.1 = y_5.1.Ln)))))))))))))))))))))
abbrev pW (b c : Bool) (P : R24) : List AV := [rW b P.Pq e50,rW c P.Bq e71]
abbrev gW (b c d : Bool) (P : R24) (l : List Int) (n : Int) : List AV := [rW b P.Pq e50,rW c P.Bq e71,rW d l eW,iW n]
abbrev tW {α : Type} (e : α → List AV) (b c : Bool) (s : Int) (k : List α) (l : List Int) : List AV := [iW s,rW b k e,rW c l eW]
theorem Need.t {C : Ctx} {l : List (Nat × AV)} {E : List (Nat × AV)} {H : List (Nat × Blk)} (h : Need l E) (k : Nat) {d : Nat} {v : AV} (hk : l[k]? = some (d,v)) : Ev C ⟨E,H⟩ (.tmp d) v := .tmp (h.at hk)
theorem AWP.vs {C : Ctx} {c : Code} {Q : Exit → St → Prop} {s : St} (s' : St) (h1 : lkE s'.env s.env = smE s'.env) (h2 : lkH s'.heap s.heap = smH s'.heap) (k : AWP C c Q s') : AWP C c Q s := AWP.vc (VC.sub (SubE.of h1) (SubH.of h2)) k
end Go.AB
