import Derived.Test.YtpccmcepgllccaaGreatProg
import Derived.Test.YtpccmcepgllccaaGreatBe
import Derived.KernelRfl
set_option linter.unusedVariables false
set_option maxRecDepth 20000
namespace Go.AB
open Go Go.Proofs
abbrev rW {α : Type} (b : Bool) (l : List α) (e : α → List AV) : AV := .rd b l.length (l.flatMap e)
abbrev iW (n : Int) : AV := .sc (.int .i64 n)
abbrev bW (b : Bool) : AV := .sc (.bool b)
abbrev eW : Int → List AV := encI .i64
def lkE : List (Nat × AV) → List (Nat × AV) → List (Option AV)
  | [],_ => []
  | (d,_) :: l,e => look d e :: lkE l e
def smE : List (Nat × AV) → List (Option AV)
  | [] => []
  | (_,v) :: l => some v :: smE l
theorem SubE.of : ∀ {l e : List (Nat × AV)},lkE l e = smE l → SubE l e
  | [],_,_ => .n _
  | (d,v) :: l,e,h => by
    simp only [lkE,smE,List.cons.injEq] at h
    exact .c h.1 (SubE.of h.2)
def lkH : List (Nat × Blk) → List (Nat × Blk) → List (Option Blk)
  | [],_ => []
  | (d,_) :: l,e => look d e :: lkH l e
def smH : List (Nat × Blk) → List (Option Blk)
  | [] => []
  | (_,v) :: l => some v :: smH l
theorem SubH.of : ∀ {l e : List (Nat × Blk)},lkH l e = smH l → SubH l e
  | [],_,_ => .n _
  | (d,v) :: l,e,h => by
    simp only [lkH,smH,List.cons.injEq] at h
    exact .c h.1 (SubH.of h.2)
theorem Ev.t {C : Ctx} {s : St} {t : Nat} {v : AV} (h : look t s.env = some v) : Ev C s (.tmp t) v := .tmp h
abbrev dO (ns : List Nat) (d : Nat) (v : AV) : DOp := ⟨ns,0,0,some (d,v),[]⟩
def uI : List Nat → List Nat
  | a :: b :: t => (List.range (b - a)).map (fun x => a + x) ++ uI t
  | _ => []
def dzO : List (Nat × List Nat) → Nat → List Nat
  | [],_ => []
  | (a,l) :: t,k => bif Nat.beq a k then l else dzO t k
def fO (dl : List (Nat × List Nat)) : Nat → Nat → List DOp → Option (List DFact)
  | _,_,[] => some []
  | k,i,⟨_,_,_,some (d,v),_⟩ :: xs => (fO dl (k+1) (i+1) xs).bind fun r => some (⟨d,v,some i,dzO dl k⟩ :: r)
  | k,i,⟨_,_,_,none,_⟩ :: xs => fO dl k (i+1) xs
def fF (dl : List (Nat × List Nat)) (D : List DOp) : Nat → List (Nat × AV) → Option (List DFact)
  | k,[] => fO dl k 0 D
  | k,(d,v) :: fs => (fF dl D (k+1) fs).bind fun r => some (⟨d,v,none,dzO dl k⟩ :: r)
def kF (F : List DFact) (n : Nat) : List Nat → Option (List (Nat × AV))
  | [] => some []
  | k :: ks => match F[k]? with
    | some ⟨d,v,none,[]⟩ => (kF F n ks).bind fun r => some ((d,v) :: r)
    | some ⟨d,v,some j,[]⟩ => bif decide (j < n) then (kF F n ks).bind fun r => some ((d,v) :: r) else none
    | _ => none
def ndB : List Nat → Bool
  | [] => true
  | a :: t => !(t.any (Nat.beq a)) && ndB t
theorem ndB_ok : ∀ {l : List Nat},ndB l = true → l.Nodup
  | [],_ => List.nodup_nil
  | a :: t,h => by
    rw [ndB,Bool.and_eq_true,Bool.not_eq_true',List.any_eq_false] at h
    exact List.nodup_cons.2 ⟨fun ha => h.1 a ha (Nat.beq_refl a),ndB_ok h.2⟩
def dwB (R : List (List Nat)) (F : List DFact) (chain : List Nat) (l : List Oper) (D : List DOp) : Bool := rcheck R 0 l && (dcheck R F chain 0 l D && (ndB chain && chain.all (fun x => Nat.blt x l.length)))
theorem fO_ok {dl : List (Nat × List Nat)} {D0 : List DOp} {E : List (Nat × AV)} : ∀ (D : List DOp) (k i : Nat) (F : List DFact),fO dl k i D = some F → (∀ j,D[j]? = D0[i + j]?) → BornOk D0 F ∧ BaseOk E F
  | [],k,i,F,h,_ => by
    cases h
    exact ⟨trivial,trivial⟩
  | ⟨ns,lo,hi,none,T⟩ :: xs,k,i,F,h,hD => fO_ok xs k (i+1) F h fun j => by
    have := hD (j+1)
    rw [List.getElem?_cons_succ] at this
    rw [this,Nat.add_assoc,Nat.add_comm 1 j]
  | ⟨ns,lo,hi,some (d,v),T⟩ :: xs,k,i,F,h,hD => by
    rw [fO,Option.bind_eq_some_iff] at h
    obtain ⟨r,hr,h⟩ := h
    cases h
    obtain ⟨q1,q2⟩ := fO_ok (E := E) xs (k+1) (i+1) r hr fun j => by
      have := hD (j+1)
      rw [List.getElem?_cons_succ] at this
      rw [this,Nat.add_assoc,Nat.add_comm 1 j]
    exact ⟨⟨⟨_,(hD 0).symm,rfl⟩,q1⟩,⟨trivial,q2⟩⟩
theorem fF_ok {dl : List (Nat × List Nat)} {D : List DOp} {E : List (Nat × AV)} : ∀ (fs : List (Nat × AV)) (k : Nat) (F : List DFact),fF dl D k fs = some F → lkE fs E = smE fs → BornOk D F ∧ BaseOk E F
  | [],k,F,h,_ => fO_ok D k 0 F h fun j => by rw [Nat.zero_add]
  | (d,v) :: fs,k,F,h,hb => by
    rw [fF,Option.bind_eq_some_iff] at h
    obtain ⟨r,hr,h⟩ := h
    cases h
    simp only [lkE,smE,List.cons.injEq] at hb
    obtain ⟨q1,q2⟩ := fF_ok fs (k+1) r hr hb.2
    exact ⟨⟨trivial,q1⟩,⟨hb.1,q2⟩⟩
theorem kF_ok {F : List DFact} {n : Nat} {E : List (Nat × AV)} (h : DInv F (fun i => decide (i < n)) E) : ∀ {ks : List Nat} {e : List (Nat × AV)},kF F n ks = some e → SubE e E
  | [],e,hk => by
    cases hk
    exact .n _
  | k :: ks,e,hk => by
    unfold kF at hk
    split at hk
    · rename_i d v hf
      obtain ⟨r,hr,hk⟩ := Option.bind_eq_some_iff.1 hk
      cases hk
      exact .c (h.at hf rfl rfl) (kF_ok h hr)
    · rename_i d v j hf
      cases hj : decide (j < n) with
      | false => rw [hj] at hk; cases hk
      | true =>
        rw [hj] at hk
        obtain ⟨r,hr,hk⟩ := Option.bind_eq_some_iff.1 hk
        cases hk
        exact .c (h.at hf hj rfl) (kF_ok h hr)
    · cases hk
theorem AWP.dw {C : Ctx} {Q : Exit → St → Prop} {s : St} {e : List (Nat × AV)} {h' : List (Nat × Blk)} {id : Nat} {l : List Oper} {F : List DFact} (hm : C.P.follows .mixedOrders = true) (fs : List (Nat × AV)) (dl : List (Nat × List Nat)) (D : List DOp) (chain : List Nat) (Hs : List (List (Nat × Blk))) (R : List (List Nat)) (ks : List Nat)
    (hF : fF dl D 0 fs = some F) (hb : lkE fs s.env = smE fs) (hc : dwB (R.map uI) F chain l D = true) (h0 : Hs[0]? = some s.heap)
    (hs : DSteps C l.toArray F chain Hs 0 l D) (he : kF F l.length ks = some e) (hH : Hs[chain.length]? = some h') (hq : Q .normal ⟨e,h'⟩) : AWP C (.region id l.toArray true) Q s := by
  unfold dwB at hc
  simp only [Bool.and_eq_true] at hc
  obtain ⟨z1,z2,z3,z4⟩ := hc
  obtain ⟨q1,q2⟩ := fF_ok fs 0 F hF hb
  exact AWP.draw (s' := ⟨e,h'⟩) hm F D chain Hs (R.map uI) z1 z2 q1 q2 h0 (ndB_ok z3) (allLt z4) hs (fun E hE => kF_ok hE he) hH hq
section
variable {C : Ctx} {A : Array Oper} {F : List DFact} {chain : List Nat} {Hs : List (List (Nat × Blk))} {i d j dj lo hi : Nat} {os : List Oper} {xs : List DOp} {op : Op} {ty : TypeId} {s : String} {e : Array Edge} {ns : List Nat} {v : AV} {b : Bool} {H : List (Nat × Blk)}
theorem DSteps.p (hc : chain.findIdx? (Nat.beq i) = none) (h : ∀ E,Need (needOf F ns) E → ∀ H,AStep C ⟨some d,op,ty,s,e,none⟩ ⟨E,H⟩ (St.put ⟨E,H⟩ d v)) (t : DSteps C A F chain Hs (i + 1) os xs) : DSteps C A F chain Hs i (⟨some d,op,ty,s,e,none⟩ :: os) (⟨ns,lo,hi,some (d,v),[]⟩ :: xs) :=
  .pure hc (fun H => .put fun E q => h E q H) t
theorem DSteps.r (hc : chain.findIdx? (Nat.beq i) = none) (hH : (Hs.drop lo).take (hi + 1 - lo) = [H]) (h : ∀ E,Need (needOf F ns) E → AStep C ⟨some d,op,ty,s,e,none⟩ ⟨E,H⟩ (St.put ⟨E,H⟩ d v)) (t : DSteps C A F chain Hs (i + 1) os xs) : DSteps C A F chain Hs i (⟨some d,op,ty,s,e,none⟩ :: os) (⟨ns,lo,hi,some (d,v),[]⟩ :: xs) :=
  .read hc (by rw [hH]; exact .c (.put h) .n) t
theorem DSteps.gf (hc : chain.findIdx? (Nat.beq i) = none) (hj : (A[j]?).bind (·.dst) = some dj) (hdj : Nat.blt dj C.N = true) (hd : Nat.blt d C.N = true) (hb : (needOf F ns)[0]? = some (dj,.sc (.bool b)))
    (h : (!b) = true → ∀ E,Need (needOf F ns) E → ∀ H,AStep C ⟨some d,op,ty,s,e,some (j,false)⟩ ⟨E,H⟩ (St.put ⟨E,H⟩ d v)) (t : DSteps C A F chain Hs (i + 1) os xs) : DSteps C A F chain Hs i (⟨some d,op,ty,s,e,some (j,false)⟩ :: os) (⟨ns,lo,hi,some (d,.gd (!b) v),[]⟩ :: xs) :=
  .pure hc (fun H => .gput (want := false) hj (l1 hdj) (l1 hd) (fun E q => q.at hb) fun hg E q => h hg E q H) t
theorem DSteps.gt (hc : chain.findIdx? (Nat.beq i) = none) (hj : (A[j]?).bind (·.dst) = some dj) (hdj : Nat.blt dj C.N = true) (hd : Nat.blt d C.N = true) (hb : (needOf F ns)[0]? = some (dj,.sc (.bool b)))
    (h : b = true → ∀ E,Need (needOf F ns) E → ∀ H,AStep C ⟨some d,op,ty,s,e,some (j,true)⟩ ⟨E,H⟩ (St.put ⟨E,H⟩ d v)) (t : DSteps C A F chain Hs (i + 1) os xs) : DSteps C A F chain Hs i (⟨some d,op,ty,s,e,some (j,true)⟩ :: os) (⟨ns,lo,hi,some (d,.gd b v),[]⟩ :: xs) :=
  .pure hc (fun H => .gput (want := true) hj (l1 hdj) (l1 hd) (fun E q => q.at hb) fun hg E q => h hg E q H) t
theorem DSteps.rf (hc : chain.findIdx? (Nat.beq i) = none) (hH : (Hs.drop lo).take (hi + 1 - lo) = [H]) (hj : (A[j]?).bind (·.dst) = some dj) (hdj : Nat.blt dj C.N = true) (hd : Nat.blt d C.N = true) (hb : (needOf F ns)[0]? = some (dj,.sc (.bool b)))
    (h : (!b) = true → ∀ E,Need (needOf F ns) E → AStep C ⟨some d,op,ty,s,e,some (j,false)⟩ ⟨E,H⟩ (St.put ⟨E,H⟩ d v)) (t : DSteps C A F chain Hs (i + 1) os xs) : DSteps C A F chain Hs i (⟨some d,op,ty,s,e,some (j,false)⟩ :: os) (⟨ns,lo,hi,some (d,.gd (!b) v),[]⟩ :: xs) :=
  .read hc (by rw [hH]; exact .c (.gput (want := false) hj (l1 hdj) (l1 hd) (fun E q => q.at hb) h) .n) t
theorem DSteps.rt (hc : chain.findIdx? (Nat.beq i) = none) (hH : (Hs.drop lo).take (hi + 1 - lo) = [H]) (hj : (A[j]?).bind (·.dst) = some dj) (hdj : Nat.blt dj C.N = true) (hd : Nat.blt d C.N = true) (hb : (needOf F ns)[0]? = some (dj,.sc (.bool b)))
    (h : b = true → ∀ E,Need (needOf F ns) E → AStep C ⟨some d,op,ty,s,e,some (j,true)⟩ ⟨E,H⟩ (St.put ⟨E,H⟩ d v)) (t : DSteps C A F chain Hs (i + 1) os xs) : DSteps C A F chain Hs i (⟨some d,op,ty,s,e,some (j,true)⟩ :: os) (⟨ns,lo,hi,some (d,.gd b v),[]⟩ :: xs) :=
  .read hc (by rw [hH]; exact .c (.gput (want := true) hj (l1 hdj) (l1 hd) (fun E q => q.at hb) h) .n) t
end
theorem zero64 : zeroT Tryz.prog 64 [.int .i64 0,.int .i64 0,.int .i64 0] := zeroT.mk (by kernel_rfl)
theorem sz3 : szOf Tryz.prog 3 1 := szOf.mk (by kernel_rfl)
theorem offs64 : offsOf Tryz.prog 64 [(0,1),(1,1),(2,1)] := ⟨_,Tryz.underlying64,rfl,.cons sz3 (.cons sz3 (.cons sz3 (.nil)))⟩
theorem el64 : elT Tryz.prog 64 3 24 := elT.mk (by kernel_rfl)
structure R63 where
  Rl : Int
  Ln : Int
  Due : Int
  deriving DecidableEq,Inhabited
def e63 (y : R63) : List AV := [.sc (.int .i64 y.Rl),.sc (.int .i64 y.Ln),.sc (.int .i64 y.Due)]
theorem encR63_len (y : R63) : (e63 y).length = 3 := rfl
theorem encR63_one (y : R63) : ∀ c,c ∈ e63 y → c.one = true := by simp [e63,AV.one]
theorem encR63_still (y : R63) : ∀ c,c ∈ e63 y → c.still = true := by simp [e63,AV.still]
theorem zero3 : zeroT Tryz.prog 3 [.int .i64 0] := zeroT.mk (by kernel_rfl)
theorem el3 : elT Tryz.prog 3 1 8 := elT.mk (by kernel_rfl)
theorem sz64 : szOf Tryz.prog 64 3 := szOf.mk (by kernel_rfl)
theorem agg64 : aggT Tryz.prog 64 3 := ⟨sz64,_,Tryz.underlying64,trivial⟩
theorem fld64_0 : fldOf Tryz.prog 64 0 0 := ⟨_,_,Tryz.underlying64,rfl,rfl,0,sz3⟩
theorem one3 : oneT Tryz.prog 3 := ⟨_,Tryz.underlying3,trivial⟩
theorem fld64_1 : fldOf Tryz.prog 64 1 1 := ⟨_,_,Tryz.underlying64,rfl,rfl,0,sz3⟩
theorem fld64_2 : fldOf Tryz.prog 64 2 2 := ⟨_,_,Tryz.underlying64,rfl,rfl,0,sz3⟩
theorem zero4 : zeroT Tryz.prog 4 [.bool false] := zeroT.mk (by kernel_rfl)
theorem el4 : elT Tryz.prog 4 1 1 := elT.mk (by kernel_rfl)
theorem sz4 : szOf Tryz.prog 4 1 := szOf.mk (by kernel_rfl)
theorem one4 : oneT Tryz.prog 4 := ⟨_,Tryz.underlying4,trivial⟩
theorem mixed : Tryz.prog.follows .mixedOrders = true := by kernel_rfl
theorem zero23 : zeroT Tryz.prog 23 [.slice none 0 0] := zeroT.mk (by kernel_rfl)
theorem zero1 : zeroT Tryz.prog 1 [.nilFunc] := zeroT.mk (by kernel_rfl)
theorem sz1 : szOf Tryz.prog 1 1 := szOf.mk (by kernel_rfl)
theorem one1 : oneT Tryz.prog 1 := ⟨_,Tryz.underlying1,trivial⟩
theorem one23 : oneT Tryz.prog 23 := ⟨_,Tryz.underlying23,trivial⟩
theorem one35 : oneT Tryz.prog 35 := ⟨_,Tryz.underlying35,trivial⟩
theorem sz23 : szOf Tryz.prog 23 1 := szOf.mk (by kernel_rfl)
structure R24 where
  Jb : (List R63)
  Dn : (List Int)
  Mt : Bool
  Bo : Int
  deriving DecidableEq,Inhabited
def encR24 (y : R24) : List AV := [.rd false y.Jb.length (y.Jb.flatMap e63),.rd false y.Dn.length (y.Dn.flatMap (encI .i64)),.sc (.bool y.Mt),.sc (.int .i64 y.Bo)]
theorem encR24_len (y : R24) : (encR24 y).length = 4 := rfl
theorem encR24_one (y : R24) : ∀ c,c ∈ encR24 y → c.one = true := by simp [encR24,AV.one]
theorem encR24_still (y : R24) : ∀ c,c ∈ encR24 y → c.still = true := by simp [encR24,AV.still]
inductive K27 where
  | mk (Sp : Int) (Kd : (List K27)) (Lf : (List Int))
structure R27 where
  Sp : Int
  Kd : (List K27)
  Lf : (List Int)
instance : Inhabited R27 := ⟨⟨default,[],default⟩⟩
def K27.out : K27 → R27
  | .mk Sp Kd Lf => ⟨Sp,Kd,Lf⟩
def K27.of (r : R27) : K27 := .mk r.Sp r.Kd r.Lf
instance : Inhabited K27 := ⟨.of default⟩
theorem K27.of_out (y : K27) : K27.of y.out = y := by cases y; rfl
mutual
def encK27 : K27 → List AV
  | .mk Sp Kd Lf => [.sc (.int .i64 Sp),.rd false Kd.length (encK27s Kd),.rd false Lf.length (Lf.flatMap (encI .i64))]
def encK27s : List K27 → List AV
  | [] => []
  | y :: t => encK27 y ++ encK27s t
end
theorem encK27s_eq : ∀ l,encK27s l = l.flatMap encK27
  | [] => by rw [encK27s]; rfl
  | y :: t => by rw [encK27s,encK27s_eq t]; rfl
theorem encK27_of (y : R27) : encK27 (.of y) = [.sc (.int .i64 y.Sp),.rd false y.Kd.length (y.Kd.flatMap encK27),.rd false y.Lf.length (y.Lf.flatMap (encI .i64))] := by
  unfold K27.of
  rw [encK27,encK27s_eq]
theorem encK27_out (y : K27) : encK27 y = [.sc (.int .i64 y.out.Sp),.rd false y.out.Kd.length (y.out.Kd.flatMap encK27),.rd false y.out.Lf.length (y.out.Lf.flatMap (encI .i64))] := by
  have := encK27_of y.out
  rwa [K27.of_out] at this
theorem encK27_of1 (y : R27) : ([K27.of y] : List K27).flatMap encK27 = [.sc (.int .i64 y.Sp),.rd false y.Kd.length (y.Kd.flatMap encK27),.rd false y.Lf.length (y.Lf.flatMap (encI .i64))] := by
  rw [List.flatMap_cons,encK27_of]; rfl
theorem encK27_len (y : K27) : (encK27 y).length = 3 := by rw [encK27_out]; rfl
theorem encK27_one (y : K27) : ∀ c,c ∈ encK27 y → c.one = true := by rw [encK27_out]; simp [AV.one]
theorem encK27_still (y : K27) : ∀ c,c ∈ encK27 y → c.still = true := by rw [encK27_out]; simp [AV.still]
theorem sz22 : szOf Tryz.prog 22 1 := szOf.mk (by kernel_rfl)
theorem fld25_0 : fldOf Tryz.prog 25 0 0 := ⟨_,_,Tryz.underlying25,rfl,rfl,0,sz22⟩
theorem one22 : oneT Tryz.prog 22 := ⟨_,Tryz.underlying22,trivial⟩
theorem fld25_1 : fldOf Tryz.prog 25 1 1 := ⟨_,_,Tryz.underlying25,rfl,rfl,0,sz23⟩
theorem sz28 : szOf Tryz.prog 28 3 := szOf.mk (by kernel_rfl)
theorem agg28 : aggT Tryz.prog 28 3 := ⟨sz28,_,Tryz.underlying28,trivial⟩
theorem sz26 : szOf Tryz.prog 26 1 := szOf.mk (by kernel_rfl)
theorem fld28_1 : fldOf Tryz.prog 28 1 1 := ⟨_,_,Tryz.underlying28,rfl,rfl,0,sz26⟩
theorem one26 : oneT Tryz.prog 26 := ⟨_,Tryz.underlying26,trivial⟩
theorem sz25 : szOf Tryz.prog 25 4 := szOf.mk (by kernel_rfl)
theorem agg25 : aggT Tryz.prog 25 4 := ⟨sz25,_,Tryz.underlying25,trivial⟩
structure R36 where
  Jb : (List R63)
  Dn : (List Int)
  Mt : Bool
  Bo : Int
  deriving DecidableEq,Inhabited
def encR36 (y : R36) : List AV := [.rd false y.Jb.length (y.Jb.flatMap e63),.rd false y.Dn.length (y.Dn.flatMap (encI .i64)),.sc (.bool y.Mt),.sc (.int .i64 y.Bo)]
theorem encR36_len (y : R36) : (encR36 y).length = 4 := rfl
theorem encR36_one (y : R36) : ∀ c,c ∈ encR36 y → c.one = true := by simp [encR36,AV.one]
theorem encR36_still (y : R36) : ∀ c,c ∈ encR36 y → c.still = true := by simp [encR36,AV.still]
theorem zero37 : zeroT Tryz.prog 37 [.slice none 0 0,.slice none 0 0,.bool false,.int .i64 0] := zeroT.mk (by kernel_rfl)
theorem sz79 : szOf Tryz.prog 79 3 := szOf.mk (by kernel_rfl)
theorem agg79 : aggT Tryz.prog 79 3 := ⟨sz79,_,Tryz.underlying79,trivial⟩
theorem zero79 : zeroT Tryz.prog 79 [.int .i64 0,.int .i64 0,.int .i64 0] := zeroT.mk (by kernel_rfl)
theorem fld25_2 : fldOf Tryz.prog 25 2 2 := ⟨_,_,Tryz.underlying25,rfl,rfl,0,sz4⟩
theorem fld25_3 : fldOf Tryz.prog 25 3 3 := ⟨_,_,Tryz.underlying25,rfl,rfl,0,sz3⟩
theorem sz35 : szOf Tryz.prog 35 1 := szOf.mk (by kernel_rfl)
theorem offs37 : offsOf Tryz.prog 37 [(0,1),(1,1),(2,1),(3,1)] := ⟨_,Tryz.underlying37,rfl,.cons sz35 (.cons sz23 (.cons sz4 (.cons sz3 (.nil))))⟩
theorem sz37 : szOf Tryz.prog 37 4 := szOf.mk (by kernel_rfl)
theorem agg37 : aggT Tryz.prog 37 4 := ⟨sz37,_,Tryz.underlying37,trivial⟩
inductive K40 where
  | mk (Sp : Int) (Kd : (List K40)) (Lf : (List Int))
structure R40 where
  Sp : Int
  Kd : (List K40)
  Lf : (List Int)
instance : Inhabited R40 := ⟨⟨default,[],default⟩⟩
def K40.out : K40 → R40
  | .mk Sp Kd Lf => ⟨Sp,Kd,Lf⟩
def K40.of (r : R40) : K40 := .mk r.Sp r.Kd r.Lf
instance : Inhabited K40 := ⟨.of default⟩
theorem K40.of_out (y : K40) : K40.of y.out = y := by cases y; rfl
mutual
def encK40 : K40 → List AV
  | .mk Sp Kd Lf => [.sc (.int .i64 Sp),.rd false Kd.length (encK40s Kd),.rd false Lf.length (Lf.flatMap (encI .i64))]
def encK40s : List K40 → List AV
  | [] => []
  | y :: t => encK40 y ++ encK40s t
end
theorem encK40s_eq : ∀ l,encK40s l = l.flatMap encK40
  | [] => by rw [encK40s]; rfl
  | y :: t => by rw [encK40s,encK40s_eq t]; rfl
theorem encK40_of (y : R40) : encK40 (.of y) = [.sc (.int .i64 y.Sp),.rd false y.Kd.length (y.Kd.flatMap encK40),.rd false y.Lf.length (y.Lf.flatMap (encI .i64))] := by
  unfold K40.of
  rw [encK40,encK40s_eq]
theorem encK40_out (y : K40) : encK40 y = [.sc (.int .i64 y.out.Sp),.rd false y.out.Kd.length (y.out.Kd.flatMap encK40),.rd false y.out.Lf.length (y.out.Lf.flatMap (encI .i64))] := by
  have := encK40_of y.out
  rwa [K40.of_out] at this
theorem encK40_of1 (y : R40) : ([K40.of y] : List K40).flatMap encK40 = [.sc (.int .i64 y.Sp),.rd false y.Kd.length (y.Kd.flatMap encK40),.rd false y.Lf.length (y.Lf.flatMap (encI .i64))] := by
  rw [List.flatMap_cons,encK40_of]; rfl
theorem encK40_len (y : K40) : (encK40 y).length = 3 := by rw [encK40_out]; rfl
theorem encK40_one (y : K40) : ∀ c,c ∈ encK40 y → c.one = true := by rw [encK40_out]; simp [AV.one]
theorem encK40_still (y : K40) : ∀ c,c ∈ encK40 y → c.still = true := by rw [encK40_out]; simp [AV.still]
theorem zero41 : zeroT Tryz.prog 41 [.int .i64 0,.slice none 0 0,.slice none 0 0] := zeroT.mk (by kernel_rfl)
theorem fld28_0 : fldOf Tryz.prog 28 0 0 := ⟨_,_,Tryz.underlying28,rfl,rfl,0,sz3⟩
theorem fld28_2 : fldOf Tryz.prog 28 2 2 := ⟨_,_,Tryz.underlying28,rfl,rfl,0,sz23⟩
theorem sz39 : szOf Tryz.prog 39 1 := szOf.mk (by kernel_rfl)
theorem offs41 : offsOf Tryz.prog 41 [(0,1),(1,1),(2,1)] := ⟨_,Tryz.underlying41,rfl,.cons sz3 (.cons sz39 (.cons sz23 (.nil)))⟩
theorem sz41 : szOf Tryz.prog 41 3 := szOf.mk (by kernel_rfl)
theorem zero28 : zeroT Tryz.prog 28 [.int .i64 0,.slice none 0 0,.slice none 0 0] := zeroT.mk (by kernel_rfl)
theorem fld41_1 : fldOf Tryz.prog 41 1 1 := ⟨_,_,Tryz.underlying41,rfl,rfl,0,sz39⟩
theorem one39 : oneT Tryz.prog 39 := ⟨_,Tryz.underlying39,trivial⟩
theorem el41 : elT Tryz.prog 41 3 56 := elT.mk (by kernel_rfl)
theorem agg41 : aggT Tryz.prog 41 3 := ⟨sz41,_,Tryz.underlying41,trivial⟩
theorem fld37_0 : fldOf Tryz.prog 37 0 0 := ⟨_,_,Tryz.underlying37,rfl,rfl,0,sz35⟩
theorem fld37_1 : fldOf Tryz.prog 37 1 1 := ⟨_,_,Tryz.underlying37,rfl,rfl,0,sz23⟩
theorem fld37_3 : fldOf Tryz.prog 37 3 3 := ⟨_,_,Tryz.underlying37,rfl,rfl,0,sz3⟩
theorem fld41_2 : fldOf Tryz.prog 41 2 2 := ⟨_,_,Tryz.underlying41,rfl,rfl,0,sz23⟩
theorem fld41_0 : fldOf Tryz.prog 41 0 0 := ⟨_,_,Tryz.underlying41,rfl,rfl,0,sz3⟩
theorem zero95 : zeroT Tryz.prog 95 [.nilFunc] := zeroT.mk (by kernel_rfl)
theorem sz95 : szOf Tryz.prog 95 1 := szOf.mk (by kernel_rfl)
theorem one95 : oneT Tryz.prog 95 := ⟨_,Tryz.underlying95,trivial⟩
theorem one73 : oneT Tryz.prog 73 := ⟨_,Tryz.underlying73,trivial⟩
theorem fld37_2 : fldOf Tryz.prog 37 2 2 := ⟨_,_,Tryz.underlying37,rfl,rfl,0,sz4⟩
theorem one72 : oneT Tryz.prog 72 := ⟨_,Tryz.underlying72,trivial⟩
theorem el37 : elT Tryz.prog 37 4 64 := elT.mk (by kernel_rfl)
theorem fld79_0 : fldOf Tryz.prog 79 0 0 := ⟨_,_,Tryz.underlying79,rfl,rfl,0,sz3⟩
theorem fld79_1 : fldOf Tryz.prog 79 1 1 := ⟨_,_,Tryz.underlying79,rfl,rfl,0,sz3⟩
theorem fld79_2 : fldOf Tryz.prog 79 2 2 := ⟨_,_,Tryz.underlying79,rfl,rfl,0,sz3⟩
theorem offs79 : offsOf Tryz.prog 79 [(0,1),(1,1),(2,1)] := ⟨_,Tryz.underlying79,rfl,.cons sz3 (.cons sz3 (.cons sz3 (.nil)))⟩
theorem el79 : elT Tryz.prog 79 3 24 := elT.mk (by kernel_rfl)
theorem zero25 : zeroT Tryz.prog 25 [.slice none 0 0,.slice none 0 0,.bool false,.int .i64 0] := zeroT.mk (by kernel_rfl)
theorem offs25 : offsOf Tryz.prog 25 [(0,1),(1,1),(2,1),(3,1)] := ⟨_,Tryz.underlying25,rfl,.cons sz22 (.cons sz23 (.cons sz4 (.cons sz3 (.nil))))⟩
theorem el25 : elT Tryz.prog 25 4 64 := elT.mk (by kernel_rfl)
theorem zero45 : zeroT Tryz.prog 45 [.slice none 0 0,.int .i64 0,.int .i64 0,.slice none 0 0,.slice none 0 0] := zeroT.mk (by kernel_rfl)
theorem offs45 : offsOf Tryz.prog 45 [(0,1),(1,1),(2,3)] := ⟨_,Tryz.underlying45,rfl,.cons sz23 (.cons sz3 (.cons sz41 (.nil)))⟩
theorem sz45 : szOf Tryz.prog 45 5 := szOf.mk (by kernel_rfl)
theorem zero47 : zeroT Tryz.prog 47 [.slice none 0 0,.int .i64 0,.int .i64 0,.slice none 0 0,.slice none 0 0] := zeroT.mk (by kernel_rfl)
theorem offs47 : offsOf Tryz.prog 47 [(0,1),(1,1),(2,3)] := ⟨_,Tryz.underlying47,rfl,.cons sz23 (.cons sz3 (.cons sz28 (.nil)))⟩
theorem sz47 : szOf Tryz.prog 47 5 := szOf.mk (by kernel_rfl)
theorem agg45 : aggT Tryz.prog 45 5 := ⟨sz45,_,Tryz.underlying45,trivial⟩
structure R44 where
  Order : (List Int)
  Value : Int
  Proof : R40
  deriving Inhabited
theorem fld45_0 : fldOf Tryz.prog 45 0 0 := ⟨_,_,Tryz.underlying45,rfl,rfl,0,sz23⟩
theorem fld45_1 : fldOf Tryz.prog 45 1 1 := ⟨_,_,Tryz.underlying45,rfl,rfl,0,sz3⟩
theorem fld45_2 : fldOf Tryz.prog 45 2 2 := ⟨_,_,Tryz.underlying45,rfl,rfl,2,sz41⟩
theorem agg47 : aggT Tryz.prog 47 5 := ⟨sz47,_,Tryz.underlying47,trivial⟩
structure R46 where
  Order : (List Int)
  Value : Int
  Proof : R27
  deriving Inhabited
theorem fld47_0 : fldOf Tryz.prog 47 0 0 := ⟨_,_,Tryz.underlying47,rfl,rfl,0,sz23⟩
theorem fld47_1 : fldOf Tryz.prog 47 1 1 := ⟨_,_,Tryz.underlying47,rfl,rfl,0,sz3⟩
theorem fld47_2 : fldOf Tryz.prog 47 2 2 := ⟨_,_,Tryz.underlying47,rfl,rfl,2,sz28⟩
theorem zero106 : zeroT Tryz.prog 106 [.nilFunc] := zeroT.mk (by kernel_rfl)
theorem sz106 : szOf Tryz.prog 106 1 := szOf.mk (by kernel_rfl)
theorem one106 : oneT Tryz.prog 106 := ⟨_,Tryz.underlying106,trivial⟩
theorem one89 : oneT Tryz.prog 89 := ⟨_,Tryz.underlying89,trivial⟩
structure R86 where
  Kind : Int
  Sp : Int
  Lf : (List Int)
  deriving DecidableEq,Inhabited
theorem zero87 : zeroT Tryz.prog 87 [.int .i64 0,.int .i64 0,.slice none 0 0] := zeroT.mk (by kernel_rfl)
theorem offs87 : offsOf Tryz.prog 87 [(0,1),(1,1),(2,1)] := ⟨_,Tryz.underlying87,rfl,.cons sz3 (.cons sz3 (.cons sz23 (.nil)))⟩
theorem sz87 : szOf Tryz.prog 87 3 := szOf.mk (by kernel_rfl)
theorem agg87 : aggT Tryz.prog 87 3 := ⟨sz87,_,Tryz.underlying87,trivial⟩
theorem fld87_0 : fldOf Tryz.prog 87 0 0 := ⟨_,_,Tryz.underlying87,rfl,rfl,0,sz3⟩
theorem fld87_2 : fldOf Tryz.prog 87 2 2 := ⟨_,_,Tryz.underlying87,rfl,rfl,0,sz23⟩
theorem fld87_1 : fldOf Tryz.prog 87 1 1 := ⟨_,_,Tryz.underlying87,rfl,rfl,0,sz3⟩
theorem offs28 : offsOf Tryz.prog 28 [(0,1),(1,1),(2,1)] := ⟨_,Tryz.underlying28,rfl,.cons sz3 (.cons sz26 (.cons sz23 (.nil)))⟩
theorem el28 : elT Tryz.prog 28 3 56 := elT.mk (by kernel_rfl)
def m47 (n : Nat) (a0 : R63) : Option Bool :=
  (letM (((((((decide (a0.Rl < (0 : Int))) || (decide ((100000 : Int) < a0.Rl))) || (decide (a0.Ln < (1 : Int)))) || (decide ((10000 : Int) < a0.Ln))) || (decide (a0.Due < (0 : Int)))) || (decide ((1000000 : Int) < a0.Due)))) fun t2_1 => (some t2_1))
def m67_L1 (n : Nat) (a0 : (List R63)) (k_15 : Unit → Option Int) (nx_10 : Int → Option Int) (x_9 : Int) : Option Int :=
  (if (decide (x_9 < (a0.length : Int))) = true then ((getIdx a0 x_9).bind fun y_11 => ((m47 n (R63.mk y_11.Rl y_11.Ln y_11.Due)).bind fun y_12 => (if y_12 = true then (some x_9) else (letM ((IntKind.wrap .i64 (x_9 + (1 : Int)))) fun t8_13 => (nx_10 t8_13))))) else (k_15 ()))
def m67 (n : Nat) (a0 : (List R63)) : Option Int :=
  (jn (fun p_14 : Unit => (some (-1 : Int))) fun k_15 => (loopM (m67_L1 n a0 k_15) n (0 : Int)))
def m48 (n : Nat) (a0 : (List R63)) : Option Bool :=
  ((m67 n a0).bind fun y_1 => (some (decide ((0 : Int) ≤ y_1))))
def m25 (n : Nat) (a0 : (List R63)) : Option Bool :=
  ((gdO (decide ((a0.length : Int) ≤ (40 : Int))) (m48 n a0) default).bind fun y_1 => (some ((decide ((a0.length : Int) ≤ (40 : Int))) && (!y_1))))
def m49_L1 (n : Nat) (a0 : (List R63)) (a1 : (List Int)) (k_22 : Unit → Option Bool) (nx_15 : (Int × (List Bool)) → Option Bool) (x_14 : (Int × (List Bool))) : Option Bool :=
  (if (decide (x_14.1 < (a1.length : Int))) = true then ((getIdx a1 x_14.1).bind fun y_16 => ((gdO (!((decide (y_16 < (0 : Int))) || (decide ((a0.length : Int) ≤ y_16)))) (getIdx x_14.2 y_16) default).bind fun y_17 => (if (((decide (y_16 < (0 : Int))) || (decide ((a0.length : Int) ≤ y_16))) || y_17) = true then (some false) else ((getIdx x_14.2 y_16).bind fun y_18 => ((setIdx x_14.2 y_16 true).bind fun l1_19 => (letM ((IntKind.wrap .i64 (x_14.1 + (1 : Int)))) fun t13_20 => (nx_15 (t13_20,l1_19)))))))) else (k_22 ()))
def m49 (n : Nat) (a0 : (List R63)) (a1 : (List Int)) : Option Bool :=
  ((mk false (a0.length : Int) (a0.length : Int)).bind fun l1_1 => (jn (fun p_21 : Unit => (some true)) fun k_22 => (loopM (m49_L1 n a0 a1 k_22) n ((0 : Int),l1_1))))
def m34 (n : Nat) (a0 : (List R63)) (a1 : (List Int)) : Option Int :=
  ((m25 n a0).bind fun y_1 => (if (!y_1) = true then (some (1 : Int)) else ((m49 n a0 a1).bind fun y_2 => (if (!y_2) = true then (some (22 : Int)) else (some (0 : Int))))))
def m57_L1 (n : Nat) (a0 : (List R63)) (a1 : (List Int)) (k_24 : (List Int) → Option (List Int)) (nx_16 : (Int × Int × (List Int)) → Option (List Int)) (x_15 : (Int × Int × (List Int))) : Option (List Int) :=
  (if (decide (x_15.2.1 < (a1.length : Int))) = true then ((getIdx a1 x_15.2.1).bind fun y_17 => ((getIdx a0 y_17).bind fun y_18 => ((getIdx a0 y_17).bind fun y_19 => (letM ((IntKind.wrap .i64 ((if y_18.Rl > x_15.1 then y_18.Rl else x_15.1) + y_19.Ln))) fun t6_20 => ((apd x_15.2.2 ([t6_20] : List Int)).bind fun l1_21 => (letM ((IntKind.wrap .i64 (x_15.2.1 + (1 : Int)))) fun t11_22 => (nx_16 (t6_20,t11_22,l1_21)))))))) else (k_24 x_15.2.2))
def m57 (n : Nat) (a0 : (List R63)) (a1 : (List Int)) : Option (List Int) :=
  (jn (fun p_23 : (List Int) => (some p_23)) fun k_24 => (loopM (m57_L1 n a0 a1 k_24) n ((0 : Int),(0 : Int),([] : List Int))))
def m35_L1 (n : Nat) (a0 : (List R63)) (a1 : (List Int)) (a2 : Bool) (y_1 : (List Int)) (k_37 : Int → Option Int) (nx_25 : (Int × Int) → Option Int) (x_24 : (Int × Int)) : Option Int :=
  (if (decide (x_24.2 < (y_1.length : Int))) = true then ((getIdx y_1 x_24.2).bind fun y_26 => ((getIdx a1 x_24.2).bind fun y_27 => ((getIdx a0 y_27).bind fun y_28 => (letM ((IntKind.wrap .i64 (y_26 - y_28.Due))) fun t10_29 => (jn (fun p_33 : Int => (letM ((IntKind.wrap .i64 (x_24.2 + (1 : Int)))) fun t15_35 => (nx_25 (p_33,t15_35)))) fun k_34 => (if (!a2) = true then (letM ((IntKind.wrap .i64 (x_24.1 + (if t10_29 > (0 : Int) then t10_29 else (0 : Int))))) fun t7_30 => (k_34 t7_30)) else (jn (fun p_31 : Int => (k_34 p_31)) fun k_32 => (if ((decide (x_24.2 = (0 : Int))) || (decide (x_24.1 < t10_29))) = true then (k_32 t10_29) else (k_32 x_24.1))))))))) else (k_37 x_24.1))
def m35 (n : Nat) (a0 : (List R63)) (a1 : (List Int)) (a2 : Bool) : Option Int :=
  ((m57 n a0 a1).bind fun y_1 => (jn (fun p_36 : Int => (some p_36)) fun k_37 => (loopM (m35_L1 n a0 a1 a2 y_1 k_37) n ((0 : Int),(0 : Int)))))
def m23 (n : Nat) (a0 : (List R63)) (a1 : (List Int)) : Option (Int × Int) :=
  ((m34 n a0 a1).bind fun y_1 => (if (!decide (y_1 = (0 : Int))) = true then (some ((0 : Int),y_1)) else ((m35 n a0 a1 false).bind fun y_2 => (some (y_2,(0 : Int))))))
def m52 (n : Nat) (a0 : (List Int)) : Option (List Int) :=
  ((apd ([] : List Int) a0).bind fun l1_2 => (some l1_2))
def m68_L1 (n : Nat) (a0 : (List Int)) (a1 : Int) (k_12 : Unit → Option Int) (nx_8 : Int → Option Int) (x_7 : Int) : Option Int :=
  (if (decide (x_7 < (a0.length : Int))) = true then ((getIdx a0 x_7).bind fun y_9 => (if (decide (a1 = y_9)) = true then (some x_7) else (letM ((IntKind.wrap .i64 (x_7 + (1 : Int)))) fun t8_10 => (nx_8 t8_10)))) else (k_12 ()))
def m68 (n : Nat) (a0 : (List Int)) (a1 : Int) : Option Int :=
  (jn (fun p_11 : Unit => (some (-1 : Int))) fun k_12 => (loopM (m68_L1 n a0 a1 k_12) n (0 : Int)))
def m51 (n : Nat) (a0 : (List Int)) (a1 : Int) : Option Bool :=
  ((m68 n a0 a1).bind fun y_1 => (some (decide ((0 : Int) ≤ y_1))))
def m60_L1 (n : Nat) (a1_b0 : (List R63)) (a2_b0 : Bool) (rc_0 : (List Int) → (List R63) → Bool → Bool → Int → (List Int) → Option ((List Int) × Bool × Int × (List Int))) (k_31 : ((List Int) × Bool × Int × (List Int)) → Option ((List Int) × Bool × Int × (List Int))) (nx_22 : (Int × (List Int) × Bool × Int × (List Int)) → Option ((List Int) × Bool × Int × (List Int))) (x_21 : (Int × (List Int) × Bool × Int × (List Int))) : Option ((List Int) × Bool × Int × (List Int)) :=
  (if (decide (x_21.1 < (a1_b0.length : Int))) = true then ((m51 n x_21.2.1 x_21.1).bind fun y_23 => (jn (fun p_27 : (List Int) × Bool × Int × (List Int) => (letM ((IntKind.wrap .i64 (x_21.1 + (1 : Int)))) fun t30_29 => (nx_22 (t30_29,p_27.1,p_27.2.1,p_27.2.2.1,p_27.2.2.2)))) fun k_28 => (if (!y_23) = true then ((apd x_21.2.1 ([x_21.1] : List Int)).bind fun l2_24 => ((rc_0 l2_24 a1_b0 a2_b0 x_21.2.2.1 x_21.2.2.2.1 x_21.2.2.2.2).bind fun y_25 => ((slc y_25.1 (0 : Int) (IntKind.wrap .i64 ((y_25.1.length : Int) - (1 : Int)))).bind fun l2_26 => (k_28 (l2_26,y_25.2.1,y_25.2.2.1,y_25.2.2.2))))) else (k_28 (x_21.2.1,x_21.2.2.1,x_21.2.2.2.1,x_21.2.2.2.2))))) else (k_31 (x_21.2.1,x_21.2.2.1,x_21.2.2.2.1,x_21.2.2.2.2)))
def m60B (n : Nat) (rc_0 : (List Int) → (List R63) → Bool → Bool → Int → (List Int) → Option ((List Int) × Bool × Int × (List Int))) (a0_b0_b : (List Int)) (a1_b0 : (List R63)) (a2_b0 : Bool) (a3_b0 : Bool) (a4_b0 : Int) (a5_b0 : (List Int)) : Option ((List Int) × Bool × Int × (List Int)) :=
  (if (decide ((a0_b0_b.length : Int) = (a1_b0.length : Int))) = true then ((m35 n a1_b0 a0_b0_b a2_b0).bind fun y_1 => (jn (fun p_3 : Bool × Int × (List Int) => (some (a0_b0_b,p_3.1,p_3.2.1,p_3.2.2))) fun k_4 => (if ((!a3_b0) || (decide (y_1 < a4_b0))) = true then ((m52 n a0_b0_b).bind fun y_2 => (k_4 (true,y_1,y_2))) else (k_4 (a3_b0,a4_b0,a5_b0))))) else (jn (fun p_30 : (List Int) × Bool × Int × (List Int) => (some (p_30.1,p_30.2.1,p_30.2.2.1,p_30.2.2.2))) fun k_31 => (loopM (m60_L1 n a1_b0 a2_b0 rc_0 k_31) n ((0 : Int),a0_b0_b,a3_b0,a4_b0,a5_b0))))
def m60F (n : Nat) : Nat → (List Int) → (List R63) → Bool → Bool → Int → (List Int) → Option ((List Int) × Bool × Int × (List Int))
  | 0 => fun _ _ _ _ _ _ => none
  | f + 1 => m60B n (m60F n f)
def m60 (n : Nat) (a0_b0_b : (List Int)) (a1_b0 : (List R63)) (a2_b0 : Bool) (a3_b0 : Bool) (a4_b0 : Int) (a5_b0 : (List Int)) : Option ((List Int) × Bool × Int × (List Int)) := m60F n n a0_b0_b a1_b0 a2_b0 a3_b0 a4_b0 a5_b0
def m39 (n : Nat) (a0 : (List R63)) (a1 : Bool) : Option ((List Int) × Int) :=
  ((m60 n ([] : List Int) a0 a1 false (0 : Int) ([] : List Int)).bind fun y_1 => (some (y_1.2.2.2,y_1.2.2.1)))
def m21 (n : Nat) (a0 : (List R63)) (a1 : Bool) : Option ((List Int) × Int × Int) :=
  ((m25 n a0).bind fun y_1 => (if (!y_1) = true then (some (([] : List Int),(0 : Int),(1 : Int))) else (if (decide ((7 : Int) < (a0.length : Int))) = true then (some (([] : List Int),(0 : Int),(9 : Int))) else ((m39 n a0 a1).bind fun y_2 => (some (y_2.1,y_2.2,(0 : Int)))))))
def m46_L13 (n : Nat) (a0 : (List R63)) (y_183 : R63) (y_242 : R63) (k_263 : Int → Option Int) (nx_256 : (Int × Int) → Option Int) (x_255 : (Int × Int)) : Option Int :=
  (if (decide (x_255.2 < (a0.length : Int))) = true then ((getIdx a0 x_255.2).bind fun y_257 => (jn (fun p_259 : Int => (letM ((IntKind.wrap .i64 (x_255.2 + (1 : Int)))) fun t29_261 => (nx_256 (p_259,t29_261)))) fun k_260 => (if ((decide (y_183.Rl ≤ y_257.Rl)) && (decide (y_257.Due ≤ y_242.Due))) = true then (letM ((IntKind.wrap .i64 (x_255.1 + y_257.Ln))) fun t11_258 => (k_260 t11_258)) else (k_260 x_255.1)))) else (k_263 x_255.1))
def m46_L12 (n : Nat) (a0 : (List R63)) (a1 : Int) (y_183 : R63) (k_270 : (Int × Bool) → Option Int) (nx_241 : (Int × Bool × Int) → Option Int) (x_240 : (Int × Bool × Int)) : Option Int :=
  (if (decide (x_240.2.2 < (a0.length : Int))) = true then ((getIdx a0 x_240.2.2).bind fun y_242 => (jn (fun p_262 : Int => (asrt (a1 ≠ 0) (letM ((IntKind.wrap .i64 ((IntKind.wrap .i64 (y_183.Rl + (IntKind.wrap .i64 ((IntKind.wrap .i64 ((IntKind.wrap .i64 (p_262 + a1)) - (1 : Int))).tdiv a1)))) - y_242.Due))) fun t14_265 => (jn (fun p_266 : Int × Bool => (letM ((IntKind.wrap .i64 (x_240.2.2 + (1 : Int)))) fun t23_268 => (nx_241 (p_266.1,p_266.2,t23_268)))) fun k_267 => (if ((decide ((0 : Int) < p_262)) && ((!x_240.2.1) || (decide (x_240.1 < t14_265)))) = true then (k_267 (t14_265,true)) else (k_267 (x_240.1,x_240.2.1))))))) fun k_263 => (loopM (m46_L13 n a0 y_183 y_242 k_263) n ((0 : Int),(0 : Int))))) else (k_270 (x_240.1,x_240.2.1)))
def m46_L9 (n : Nat) (a0 : (List R63)) (a1 : Int) (k_273 : Int → Option Int) (nx_182 : (Int × Bool × Int) → Option Int) (x_181 : (Int × Bool × Int)) : Option Int :=
  (if (decide (x_181.2.2 < (a0.length : Int))) = true then ((getIdx a0 x_181.2.2).bind fun y_183 => (jn (fun p_269 : Int × Bool => (letM ((IntKind.wrap .i64 (x_181.2.2 + (1 : Int)))) fun t17_271 => (nx_182 (p_269.1,p_269.2,t17_271)))) fun k_270 => (loopM (m46_L12 n a0 a1 y_183 k_270) n (x_181.1,x_181.2.1,(0 : Int))))) else (k_273 x_181.1))
def m46 (n : Nat) (a0 : (List R63)) (a1 : Int) : Option Int :=
  (jn (fun p_272 : Int => (some p_272)) fun k_273 => (loopM (m46_L9 n a0 a1 k_273) n ((0 : Int),false,(0 : Int))))
def m24 (n : Nat) (a0 : (List R63)) : Option (Int × Int) :=
  ((m25 n a0).bind fun y_1 => (if (!y_1) = true then (some ((0 : Int),(1 : Int))) else ((m46 n a0 (1 : Int)).bind fun y_2 => (some (y_2,(0 : Int))))))
def m11_L1 (n : Nat) (a0 : (List Int)) (a1 : (List Int)) (k_15 : Unit → Option Bool) (nx_10 : Int → Option Bool) (x_9 : Int) : Option Bool :=
  (if (decide (x_9 < (a0.length : Int))) = true then ((getIdx a0 x_9).bind fun y_11 => ((getIdx a1 x_9).bind fun y_12 => (if (!decide (y_11 = y_12)) = true then (some false) else (letM ((IntKind.wrap .i64 (x_9 + (1 : Int)))) fun t5_13 => (nx_10 t5_13))))) else (k_15 ()))
def m11 (n : Nat) (a0 : (List Int)) (a1 : (List Int)) : Option Bool :=
  (if (!decide ((a0.length : Int) = (a1.length : Int))) = true then (some false) else (jn (fun p_14 : Unit => (some true)) fun k_15 => (loopM (m11_L1 n a0 a1 k_15) n (0 : Int))))
def m5 (n : Nat) : Option Bool :=
  (letM (([(R63.mk (0 : Int) (5 : Int) (6 : Int)),(R63.mk (1 : Int) (2 : Int) (3 : Int))] : List R63)) fun l1_1 => ((m23 n l1_1 ([(0 : Int),(1 : Int)] : List Int)).bind fun y_2 => ((m21 n l1_1 false).bind fun y_3 => ((m24 n l1_1).bind fun y_4 => ((gdO ((((((decide (y_2.2 = (0 : Int))) && (decide (y_3.2.2 = (0 : Int)))) && (decide (y_4.2 = (0 : Int)))) && (decide (y_2.1 = (4 : Int)))) && (decide (y_3.2.1 = (2 : Int)))) && (decide (y_4.1 = (1 : Int)))) (m11 n y_3.1 ([(1 : Int),(0 : Int)] : List Int)) default).bind fun y_5 => ((gdO (((((((decide (y_2.2 = (0 : Int))) && (decide (y_3.2.2 = (0 : Int)))) && (decide (y_4.2 = (0 : Int)))) && (decide (y_2.1 = (4 : Int)))) && (decide (y_3.2.1 = (2 : Int)))) && (decide (y_4.1 = (1 : Int)))) && y_5) (m25 n l1_1) default).bind fun y_6 => (letM (((((((((decide (y_2.2 = (0 : Int))) && (decide (y_3.2.2 = (0 : Int)))) && (decide (y_4.2 = (0 : Int)))) && (decide (y_2.1 = (4 : Int)))) && (decide (y_3.2.1 = (2 : Int)))) && (decide (y_4.1 = (1 : Int)))) && y_5) && y_6)) fun t0_7 => (some t0_7))))))))
def m26_L1 (n : Nat) (a0 : R27) (rc_0 : R27 → Option Int) (k_18 : Int → Option Int) (nx_12 : (Int × Int) → Option Int) (x_11 : (Int × Int)) : Option Int :=
  (if (decide (x_11.2 < (a0.Kd.length : Int))) = true then ((getIdx a0.Kd x_11.2).bind fun y_13 => ((rc_0 (R27.mk y_13.out.Sp y_13.out.Kd y_13.out.Lf)).bind fun y_14 => (letM ((IntKind.wrap .i64 (x_11.1 + y_14))) fun t3_15 => (letM ((IntKind.wrap .i64 (x_11.2 + (1 : Int)))) fun t4_16 => (nx_12 (t3_15,t4_16)))))) else (k_18 x_11.1))
def m26B (n : Nat) (rc_0 : R27 → Option Int) (a0 : R27) : Option Int :=
  (jn (fun p_17 : Int => (some p_17)) fun k_18 => (loopM (m26_L1 n a0 rc_0 k_18) n ((1 : Int),(0 : Int))))
def m26F (n : Nat) : Nat → R27 → Option Int
  | 0 => fun _ => none
  | f + 1 => m26B n (m26F n f)
def m26 (n : Nat) (a0 : R27) : Option Int := m26F n n a0
def m13_L1 (n : Nat) (a0 : (List R63)) (k_15 : (List R63) → Option (List R63)) (nx_10 : (Int × (List R63)) → Option (List R63)) (x_9 : (Int × (List R63))) : Option (List R63) :=
  (if (decide (x_9.1 < (a0.length : Int))) = true then ((getIdx a0 x_9.1).bind fun y_11 => ((apd x_9.2 ([(R63.mk y_11.Rl y_11.Ln y_11.Due)] : List R63)).bind fun l1_12 => (letM ((IntKind.wrap .i64 (x_9.1 + (1 : Int)))) fun t8_13 => (nx_10 (t8_13,l1_12))))) else (k_15 x_9.2))
def m13 (n : Nat) (a0 : (List R63)) : Option (List R63) :=
  (jn (fun p_14 : (List R63) => (some p_14)) fun k_15 => (loopM (m13_L1 n a0 k_15) n ((0 : Int),([] : List R63))))
def m27 (n : Nat) (a0 : R36) : Option Bool :=
  ((m25 n a0.Jb).bind fun y_1 => ((gdO (y_1 && (decide ((0 : Int) < (a0.Jb.length : Int)))) (m49 n a0.Jb a0.Dn) default).bind fun y_2 => (some ((((y_1 && (decide ((0 : Int) < (a0.Jb.length : Int)))) && y_2) && (decide ((-1073741824 : Int) ≤ a0.Bo))) && (decide (a0.Bo ≤ (1073741824 : Int)))))))
def m43_L1 (n : Nat) (a0 : R40) (rc_0 : R40 → Option Int) (k_18 : Int → Option Int) (nx_12 : (Int × Int) → Option Int) (x_11 : (Int × Int)) : Option Int :=
  (if (decide (x_11.2 < (a0.Kd.length : Int))) = true then ((getIdx a0.Kd x_11.2).bind fun y_13 => ((rc_0 (R40.mk y_13.out.Sp y_13.out.Kd y_13.out.Lf)).bind fun y_14 => (letM ((IntKind.wrap .i64 (x_11.1 + y_14))) fun t3_15 => (letM ((IntKind.wrap .i64 (x_11.2 + (1 : Int)))) fun t9_16 => (nx_12 (t3_15,t9_16)))))) else (k_18 x_11.1))
def m43B (n : Nat) (rc_0 : R40 → Option Int) (a0 : R40) : Option Int :=
  (jn (fun p_17 : Int => (some p_17)) fun k_18 => (loopM (m43_L1 n a0 rc_0 k_18) n ((1 : Int),(0 : Int))))
def m43F (n : Nat) : Nat → R40 → Option Int
  | 0 => fun _ => none
  | f + 1 => m43B n (m43F n f)
def m43 (n : Nat) (a0 : R40) : Option Int := m43F n n a0
def m44_L1 (n : Nat) (a0 : R40) (rc_0 : R40 → Option Int) (k_18 : Int → Option Int) (nx_12 : (Int × Int) → Option Int) (x_11 : (Int × Int)) : Option Int :=
  (if (decide (x_11.2 < (a0.Kd.length : Int))) = true then ((getIdx a0.Kd x_11.2).bind fun y_13 => ((rc_0 (R40.mk y_13.out.Sp y_13.out.Kd y_13.out.Lf)).bind fun y_14 => (letM ((if y_14 > x_11.1 then y_14 else x_11.1)) fun t3_15 => (letM ((IntKind.wrap .i64 (x_11.2 + (1 : Int)))) fun t9_16 => (nx_12 (t3_15,t9_16)))))) else (k_18 x_11.1))
def m44B (n : Nat) (rc_0 : R40 → Option Int) (a0 : R40) : Option Int :=
  (jn (fun p_17 : Int => (letM ((IntKind.wrap .i64 (p_17 + (1 : Int)))) fun t2_19 => (some t2_19))) fun k_18 => (loopM (m44_L1 n a0 rc_0 k_18) n ((0 : Int),(0 : Int))))
def m44F (n : Nat) : Nat → R40 → Option Int
  | 0 => fun _ => none
  | f + 1 => m44B n (m44F n f)
def m44 (n : Nat) (a0 : R40) : Option Int := m44F n n a0
def m63 (n : Nat) (a0 : Int) : Option Bool :=
  (some ((decide ((-1073741824 : Int) ≤ a0)) && (decide (a0 ≤ (1073741824 : Int)))))
def m72 (n : Nat) (a0 : Int) : Option Bool :=
  ((m63 n a0).bind fun y_1 => (some (!y_1)))
def m77_L1 (n : Nat) (a0 : (List Int)) (k_15 : Unit → Option Int) (nx_10 : Int → Option Int) (x_9 : Int) : Option Int :=
  (if (decide (x_9 < (a0.length : Int))) = true then ((getIdx a0 x_9).bind fun y_11 => ((m72 n y_11).bind fun y_12 => (if y_12 = true then (some x_9) else (letM ((IntKind.wrap .i64 (x_9 + (1 : Int)))) fun t8_13 => (nx_10 t8_13))))) else (k_15 ()))
def m77 (n : Nat) (a0 : (List Int)) : Option Int :=
  (jn (fun p_14 : Unit => (some (-1 : Int))) fun k_15 => (loopM (m77_L1 n a0 k_15) n (0 : Int)))
def m71 (n : Nat) (a0 : (List Int)) : Option Bool :=
  ((m77 n a0).bind fun y_1 => (some (decide ((0 : Int) ≤ y_1))))
def m62 (n : Nat) (a0 : R40) : Option Bool :=
  (if (decide ((0 : Int) < (a0.Kd.length : Int))) = true then ((gdO ((decide ((a0.Lf.length : Int) = (0 : Int))) && (decide ((a0.Kd.length : Int) ≤ (100 : Int)))) (m63 n a0.Sp) default).bind fun y_1 => (some (((decide ((a0.Lf.length : Int) = (0 : Int))) && (decide ((a0.Kd.length : Int) ≤ (100 : Int)))) && y_1))) else ((gdO ((decide (a0.Sp = (0 : Int))) && (decide ((a0.Lf.length : Int) ≤ (40 : Int)))) (m71 n a0.Lf) default).bind fun y_2 => (some (((decide (a0.Sp = (0 : Int))) && (decide ((a0.Lf.length : Int) ≤ (40 : Int)))) && (!y_2)))))
def m66 (n : Nat) (rc_0 : R40 → Option Bool) (a0 : R40) : Option Bool :=
  ((rc_0 (R40.mk a0.Sp a0.Kd a0.Lf)).bind fun y_1 => (some (!y_1)))
def m75x1_L1 (n : Nat) (a0 : (List K40)) (rc_0 : R40 → Option Bool) (k_15 : Unit → Option Int) (nx_10 : Int → Option Int) (x_9 : Int) : Option Int :=
  (if (decide (x_9 < (a0.length : Int))) = true then ((getIdx a0 x_9).bind fun y_11 => ((m66 n rc_0 (R40.mk y_11.out.Sp y_11.out.Kd y_11.out.Lf)).bind fun y_12 => (if y_12 = true then (some x_9) else (letM ((IntKind.wrap .i64 (x_9 + (1 : Int)))) fun t8_13 => (nx_10 t8_13))))) else (k_15 ()))
def m75x1 (n : Nat) (rc_0 : R40 → Option Bool) (a0 : (List K40)) : Option Int :=
  (jn (fun p_14 : Unit => (some (-1 : Int))) fun k_15 => (loopM (m75x1_L1 n a0 rc_0 k_15) n (0 : Int)))
def m65x1 (n : Nat) (rc_0 : R40 → Option Bool) (a0 : (List K40)) : Option Bool :=
  ((m75x1 n rc_0 a0).bind fun y_1 => (some (decide ((0 : Int) ≤ y_1))))
def m45B (n : Nat) (rc_0 : R40 → Option Bool) (a0 : R40) : Option Bool :=
  ((m62 n (R40.mk a0.Sp a0.Kd a0.Lf)).bind fun y_1 => ((gdO y_1 (m65x1 n rc_0 a0.Kd) default).bind fun y_2 => (some (y_1 && (!y_2)))))
def m45F (n : Nat) : Nat → R40 → Option Bool
  | 0 => fun _ => none
  | f + 1 => m45B n (m45F n f)
def m45 (n : Nat) (a0 : R40) : Option Bool := m45F n n a0
def m22 (n : Nat) (a0 : R40) : Option Bool :=
  ((m43 n (R40.mk a0.Sp a0.Kd a0.Lf)).bind fun y_1 => ((gdO (decide (y_1 ≤ (2000 : Int))) (m44 n (R40.mk a0.Sp a0.Kd a0.Lf)) default).bind fun y_2 => ((gdO ((decide (y_1 ≤ (2000 : Int))) && (decide (y_2 ≤ (40 : Int)))) (m45 n (R40.mk a0.Sp a0.Kd a0.Lf)) default).bind fun y_3 => (some (((decide (y_1 ≤ (2000 : Int))) && (decide (y_2 ≤ (40 : Int)))) && y_3)))))
def m100 (n : Nat) (a0 : Int) : Option Int :=
  (jn (fun p_1 : Int × Int => (jn (fun p_4 : Int × Int => (jn (fun p_7 : Int × Int => ((getIdx ([0,1,2,2,3,3,3,3,4,4,4,4,4,4,4,4,5,5,5,5,5,5,5,5,5,5,5,5,5,5,5,5,6,6,6,6,6,6,6,6,6,6,6,6,6,6,6,6,6,6,6,6,6,6,6,6,6,6,6,6,6,6,6,6,7,7,7,7,7,7,7,7,7,7,7,7,7,7,7,7,7,7,7,7,7,7,7,7,7,7,7,7,7,7,7,7,7,7,7,7,7,7,7,7,7,7,7,7,7,7,7,7,7,7,7,7,7,7,7,7,7,7,7,7,7,7,7,7,8,8,8,8,8,8,8,8,8,8,8,8,8,8,8,8,8,8,8,8,8,8,8,8,8,8,8,8,8,8,8,8,8,8,8,8,8,8,8,8,8,8,8,8,8,8,8,8,8,8,8,8,8,8,8,8,8,8,8,8,8,8,8,8,8,8,8,8,8,8,8,8,8,8,8,8,8,8,8,8,8,8,8,8,8,8,8,8,8,8,8,8,8,8,8,8,8,8,8,8,8,8,8,8,8,8,8,8,8,8,8,8,8,8,8,8,8,8,8,8,8,8,8,8,8,8,8,8] : List UInt8) (IntKind.wrap .u8 p_7.1)).bind fun c_9 => (letM ((IntKind.wrap .i64 (p_7.2 + (IntKind.wrap .i64 (c_9.toNat : Int))))) fun t2_10 => (some t2_10)))) fun k_8 => (if (decide ((256 : Int) ≤ p_4.1)) = true then (letM ((IntKind.wrap .i64 (p_4.2 + (8 : Int)))) fun t2_6 => (k_8 ((shrI .u64 p_4.1 (8 : Int)),t2_6))) else (k_8 (p_4.1,p_4.2))))) fun k_5 => (if (decide ((65536 : Int) ≤ p_1.1)) = true then (letM ((IntKind.wrap .i64 (p_1.2 + (16 : Int)))) fun t2_3 => (k_5 ((shrI .u64 p_1.1 (16 : Int)),t2_3))) else (k_5 (p_1.1,p_1.2))))) fun k_2 => (if (decide ((4294967296 : Int) ≤ a0)) = true then (k_2 ((shrI .u64 a0 (32 : Int)),(32 : Int))) else (k_2 (a0,(0 : Int)))))
def m79 (n : Nat) (a0 : Int) : Option Int :=
  ((m100 n a0).bind fun y_1 => (some y_1))
def m102 (n : Nat) (a0 : Int) : Option Bool :=
  (some (!decide (a0 = a0)))
def m96 (n : Nat) (a0 : Int) (a1 : Int) : Option Bool :=
  ((m102 n a0).bind fun y_1 => ((gdO y_1 (m102 n a1) default).bind fun y_2 => (some ((y_1 && (!y_2)) || (decide (a0 < a1))))))
def m90_L4 (n : Nat) (a1 : Int) (k_115 : (List Int) → Option (List Int)) (nx_103 : (Int × (List Int)) → Option (List Int)) (x_102 : (Int × (List Int))) : Option (List Int) :=
  ((gdO (decide (a1 < x_102.1)) (getIdx x_102.2 x_102.1) default).bind fun y_104 => ((gdO (decide (a1 < x_102.1)) (getIdx x_102.2 (IntKind.wrap .i64 (x_102.1 - (1 : Int)))) default).bind fun y_105 => ((gdO (decide (a1 < x_102.1)) (m96 n y_104 y_105) default).bind fun y_106 => (if ((decide (a1 < x_102.1)) && y_106) = true then ((getIdx x_102.2 (IntKind.wrap .i64 (x_102.1 - (1 : Int)))).bind fun y_107 => ((getIdx x_102.2 x_102.1).bind fun y_108 => ((getIdx x_102.2 x_102.1).bind fun y_109 => ((setIdx x_102.2 x_102.1 y_107).bind fun l1_110 => ((getIdx l1_110 (IntKind.wrap .i64 (x_102.1 - (1 : Int)))).bind fun y_111 => ((setIdx l1_110 (IntKind.wrap .i64 (x_102.1 - (1 : Int))) y_108).bind fun l1_112 => (letM ((IntKind.wrap .i64 (x_102.1 - (1 : Int)))) fun t7_113 => (nx_103 (t7_113,l1_112))))))))) else (k_115 x_102.2)))))
def m90_L3 (n : Nat) (a1 : Int) (a2 : Int) (k_118 : (List Int) → Option (List Int)) (nx_79 : (Int × (List Int)) → Option (List Int)) (x_78 : (Int × (List Int))) : Option (List Int) :=
  (if (decide (x_78.1 < a2)) = true then (jn (fun p_114 : (List Int) => (letM ((IntKind.wrap .i64 (x_78.1 + (1 : Int)))) fun t6_116 => (nx_79 (t6_116,p_114)))) fun k_115 => (loopM (m90_L4 n a1 k_115) n (x_78.1,x_78.2))) else (k_118 x_78.2))
def m90 (n : Nat) (a0_b : (List Int)) (a1 : Int) (a2 : Int) : Option (List Int) :=
  (letM ((IntKind.wrap .i64 (a1 + (1 : Int)))) fun t6_1 => (jn (fun p_117 : (List Int) => (some p_117)) fun k_118 => (loopM (m90_L3 n a1 a2 k_118) n (t6_1,a0_b))))
def m78_L1 (n : Nat) (a0_b : (List Int)) (a1 : Int) (a2 : Int) (nx_6 : Unit → Option (List Int)) (x_5 : Unit) : Option (List Int) :=
  (letM ((IntKind.wrap .i64 (a2 - a1))) fun t10_7 => (if (decide (t10_7 ≤ (12 : Int))) = true then ((m90 n a0_b a1 a2).bind fun y_8 => (asrt (a0_b.length = y_8.length) (some y_8))) else none))
def m78 (n : Nat) (a0_b : (List Int)) (a1 : Int) (a2 : Int) (a3 : Int) : Option (List Int) :=
  (loopM (m78_L1 n a0_b a1 a2) n ())
def m73 (n : Nat) (a0_b : (List Int)) : Option (List Int) :=
  ((m79 n (IntKind.wrap .u64 (a0_b.length : Int))).bind fun y_1 => ((m78 n a0_b (0 : Int) (a0_b.length : Int) y_1).bind fun y_2 => (asrt (a0_b.length = y_2.length) (some y_2))))
def m82 (n : Nat) (a0 : Int) (a1 : Int) : Option Int :=
  ((m102 n a0).bind fun y_1 => ((m102 n a1).bind fun y_2 => (if y_1 = true then (if y_2 = true then (some (0 : Int)) else (some (-1 : Int))) else (if y_2 = true then (some (1 : Int)) else (if (decide (a0 < a1)) = true then (some (-1 : Int)) else (if (decide (a1 < a0)) = true then (some (1 : Int)) else (some (0 : Int))))))))
def m81 (n : Nat) (a0 : Int) (a1 : Int) (a2_b0 : (List R63)) : Option Int :=
  ((getIdx a2_b0 a0).bind fun y_1 => ((getIdx a2_b0 a1).bind fun y_2 => ((m82 n y_1.Rl y_2.Rl).bind fun y_3 => (some y_3))))
def m108_L4 (n : Nat) (a1 : Int) (a3_0_b0 : (List R63)) (k_115 : (List Int) → Option (List Int)) (nx_103 : (Int × (List Int)) → Option (List Int)) (x_102 : (Int × (List Int))) : Option (List Int) :=
  ((gdO (decide (a1 < x_102.1)) (getIdx x_102.2 x_102.1) default).bind fun y_104 => ((gdO (decide (a1 < x_102.1)) (getIdx x_102.2 (IntKind.wrap .i64 (x_102.1 - (1 : Int)))) default).bind fun y_105 => ((gdO (decide (a1 < x_102.1)) (m81 n y_104 y_105 a3_0_b0) default).bind fun y_106 => (if ((decide (a1 < x_102.1)) && (decide (y_106 < (0 : Int)))) = true then ((getIdx x_102.2 (IntKind.wrap .i64 (x_102.1 - (1 : Int)))).bind fun y_107 => ((getIdx x_102.2 x_102.1).bind fun y_108 => ((getIdx x_102.2 x_102.1).bind fun y_109 => ((setIdx x_102.2 x_102.1 y_107).bind fun l1_110 => ((getIdx l1_110 (IntKind.wrap .i64 (x_102.1 - (1 : Int)))).bind fun y_111 => ((setIdx l1_110 (IntKind.wrap .i64 (x_102.1 - (1 : Int))) y_108).bind fun l1_112 => (letM ((IntKind.wrap .i64 (x_102.1 - (1 : Int)))) fun t9_113 => (nx_103 (t9_113,l1_112))))))))) else (k_115 x_102.2)))))
def m108_L3 (n : Nat) (a1 : Int) (a2 : Int) (a3_0_b0 : (List R63)) (k_118 : (List Int) → Option (List Int)) (nx_79 : (Int × (List Int)) → Option (List Int)) (x_78 : (Int × (List Int))) : Option (List Int) :=
  (if (decide (x_78.1 < a2)) = true then (jn (fun p_114 : (List Int) => (letM ((IntKind.wrap .i64 (x_78.1 + (1 : Int)))) fun t8_116 => (nx_79 (t8_116,p_114)))) fun k_115 => (loopM (m108_L4 n a1 a3_0_b0 k_115) n (x_78.1,x_78.2))) else (k_118 x_78.2))
def m108 (n : Nat) (a0_b : (List Int)) (a1 : Int) (a2 : Int) (a3_0_b0 : (List R63)) : Option (List Int) :=
  (letM ((IntKind.wrap .i64 (a1 + (1 : Int)))) fun t8_1 => (jn (fun p_117 : (List Int) => (some p_117)) fun k_118 => (loopM (m108_L3 n a1 a2 a3_0_b0 k_118) n (t8_1,a0_b))))
def m101_L2 (n : Nat) (a1 : Int) (k_22 : Unit → Option (List Int)) (nx_20 : Unit → Option (List Int)) (x_19 : Unit) : Option (List Int) :=
  (if (decide ((20 : Int) < a1)) = true then none else (k_22 ()))
def m101_L1 (n : Nat) (a1 : Int) (a2_0_b0 : (List R63)) (k_15 : (Int × (List Int)) → Option (List Int)) (nx_10 : (Int × Int × (List Int)) → Option (List Int)) (x_9 : (Int × Int × (List Int))) : Option (List Int) :=
  (if (decide (x_9.2.1 ≤ a1)) = true then ((m108 n x_9.2.2 x_9.1 x_9.2.1 a2_0_b0).bind fun y_11 => (asrt (x_9.2.2.length = y_11.length) (letM ((IntKind.wrap .i64 (x_9.2.1 + (20 : Int)))) fun t8_13 => (nx_10 (x_9.2.1,t8_13,y_11))))) else (k_15 (x_9.1,x_9.2.2)))
def m101 (n : Nat) (a0_b : (List Int)) (a1 : Int) (a2_0_b0 : (List R63)) : Option (List Int) :=
  (jn (fun p_14 : Int × (List Int) => ((m108 n p_14.2 p_14.1 a1 a2_0_b0).bind fun y_16 => (asrt (p_14.2.length = y_16.length) (jn (fun p_21 : Unit => (some y_16)) fun k_22 => (loopM (m101_L2 n a1 k_22) n ()))))) fun k_15 => (loopM (m101_L1 n a1 a2_0_b0 k_15) n ((0 : Int),(20 : Int),a0_b)))
def m80 (n : Nat) (a0_b : (List Int)) (a1_0_b0 : (List R63)) : Option (List Int) :=
  ((m101 n a0_b (a0_b.length : Int) a1_0_b0).bind fun y_1 => (asrt (a0_b.length = y_1.length) (some y_1)))
def m85_L1 (n : Nat) (a0 : (List Int)) (k_12 : Unit → Option Int) (nx_8 : Int → Option Int) (x_7 : Int) : Option Int :=
  (if (decide (x_7 < (a0.length : Int))) = true then ((getIdx a0 x_7).bind fun y_9 => (if (!decide (y_9 = (0 : Int))) = true then (some y_9) else (letM ((IntKind.wrap .i64 (x_7 + (1 : Int)))) fun t8_10 => (nx_8 t8_10)))) else (k_12 ()))
def m85 (n : Nat) (a0 : (List Int)) : Option Int :=
  (jn (fun p_11 : Unit => (some (0 : Int))) fun k_12 => (loopM (m85_L1 n a0 k_12) n (0 : Int)))
def m84 (n : Nat) (a0 : Int) (a1 : Int) (a2_b0_b : (List Int)) : Option Int :=
  ((getIdx a2_b0_b a0).bind fun y_1 => ((getIdx a2_b0_b a1).bind fun y_2 => ((m82 n y_1 y_2).bind fun y_3 => ((m82 n a0 a1).bind fun y_4 => ((m85 n ([y_3,y_4] : List Int)).bind fun y_5 => (some y_5))))))
def m83_L1 (n : Nat) (a0 : (List Int)) (a1_0_b0_b : (List Int)) (k_25 : Int → Option Int) (nx_17 : (Int × Int) → Option Int) (x_16 : (Int × Int)) : Option Int :=
  (if (decide (x_16.2 < (a0.length : Int))) = true then ((getIdx a0 x_16.2).bind fun y_18 => ((m84 n y_18 x_16.1 a1_0_b0_b).bind fun y_19 => (jn (fun p_21 : Int => (letM ((IntKind.wrap .i64 (x_16.2 + (1 : Int)))) fun t6_23 => (nx_17 (p_21,t6_23)))) fun k_22 => (if (decide (y_19 < (0 : Int))) = true then ((getIdx a0 x_16.2).bind fun y_20 => (k_22 y_20)) else (k_22 x_16.1))))) else (k_25 x_16.1))
def m83 (n : Nat) (a0 : (List Int)) (a1_0_b0_b : (List Int)) : Option Int :=
  (if (decide ((a0.length : Int) < (1 : Int))) = true then none else ((getIdx a0 (0 : Int)).bind fun y_1 => (jn (fun p_24 : Int => (some p_24)) fun k_25 => (loopM (m83_L1 n a0 a1_0_b0_b k_25) n (y_1,(1 : Int))))))
def m87 (n : Nat) (a0 : Int) (a1_b0 : Int) : Option Bool :=
  (some (decide (a0 = a1_b0)))
def m77x1_L1 (n : Nat) (a0 : (List Int)) (a1_0_b0 : Int) (k_15 : Unit → Option Int) (nx_10 : Int → Option Int) (x_9 : Int) : Option Int :=
  (if (decide (x_9 < (a0.length : Int))) = true then ((getIdx a0 x_9).bind fun y_11 => ((m87 n y_11 a1_0_b0).bind fun y_12 => (if y_12 = true then (some x_9) else (letM ((IntKind.wrap .i64 (x_9 + (1 : Int)))) fun t8_13 => (nx_10 t8_13))))) else (k_15 ()))
def m77x1 (n : Nat) (a0 : (List Int)) (a1_0_b0 : Int) : Option Int :=
  (jn (fun p_14 : Unit => (some (-1 : Int))) fun k_15 => (loopM (m77x1_L1 n a0 a1_0_b0 k_15) n (0 : Int)))
def m86o_L1 (n : Nat) (a1_0_b0 : Int) (k_32 : (Int × (List Int)) → Option (List Int)) (nx_22 : (Int × Int × (List Int)) → Option (List Int)) (x_21 : (Int × Int × (List Int))) : Option (List Int) :=
  (if (decide (x_21.2.1 < (x_21.2.2.length : Int))) = true then ((getIdx x_21.2.2 x_21.2.1).bind fun y_23 => ((m87 n y_23 a1_0_b0).bind fun y_24 => (jn (fun p_28 : Int × (List Int) => (letM ((IntKind.wrap .i64 (x_21.2.1 + (1 : Int)))) fun t6_30 => (nx_22 (p_28.1,t6_30,p_28.2)))) fun k_29 => (if (!y_24) = true then ((getIdx x_21.2.2 x_21.1).bind fun y_25 => ((setIdx x_21.2.2 x_21.1 y_23).bind fun l1_26 => (letM ((IntKind.wrap .i64 (x_21.1 + (1 : Int)))) fun t5_27 => (k_29 (t5_27,l1_26))))) else (k_29 (x_21.1,x_21.2.2)))))) else (k_32 (x_21.1,x_21.2.2)))
def m86o (n : Nat) (a0_b : (List Int)) (a1_0_b0 : Int) : Option (List Int) :=
  ((m77x1 n a0_b a1_0_b0).bind fun y_1 => (if (decide (y_1 = (-1 : Int))) = true then (some a0_b) else (letM ((IntKind.wrap .i64 (y_1 + (1 : Int)))) fun t6_2 => (jn (fun p_31 : Int × (List Int) => ((slc p_31.2 (0 : Int) p_31.1).bind fun l1_33 => (some l1_33))) fun k_32 => (loopM (m86o_L1 n a1_0_b0 k_32) n (y_1,t6_2,a0_b))))))
def m74_L5 (n : Nat) (a0 : (List R63)) (y_17 : (List Int)) (p_129 : Int) (k_160 : (Int × (List Int) × (List Int)) → Option (List Int)) (nx_150 : (Int × (List Int) × (List Int)) → Option (List Int)) (x_149 : (Int × (List Int) × (List Int))) : Option (List Int) :=
  ((gdO (decide (x_149.1 < (y_17.length : Int))) (getIdx y_17 x_149.1) default).bind fun y_151 => ((gdO (decide (x_149.1 < (y_17.length : Int))) (getIdx a0 y_151) default).bind fun y_152 => (if ((decide (x_149.1 < (y_17.length : Int))) && (decide (y_152.Rl ≤ p_129))) = true then ((getIdx y_17 x_149.1).bind fun y_153 => ((getIdx a0 y_153).bind fun y_154 => ((getIdx x_149.2.2 y_153).bind fun y_155 => ((setIdx x_149.2.2 y_153 y_154.Ln).bind fun l3_156 => ((apd x_149.2.1 ([y_153] : List Int)).bind fun l5_157 => (letM ((IntKind.wrap .i64 (x_149.1 + (1 : Int)))) fun t9_158 => (nx_150 (t9_158,l5_157,l3_156)))))))) else (k_160 (x_149.1,x_149.2.1,x_149.2.2)))))
def m74_L4 (n : Nat) (a0 : (List R63)) (y_17 : (List Int)) (k_178 : (List Int) → Option (List Int)) (nx_125 : (Int × Int × (List Int) × (List Int) × (List Int)) → Option (List Int)) (x_124 : (Int × Int × (List Int) × (List Int) × (List Int))) : Option (List Int) :=
  (if (decide ((x_124.2.2.2.1.length : Int) < (a0.length : Int))) = true then (jn (fun p_129 : Int => (jn (fun p_159 : Int × (List Int) × (List Int) => ((m83 n p_159.2.1 p_159.2.2).bind fun y_161 => ((getIdx p_159.2.2 y_161).bind fun y_162 => (jn (fun p_166 : Int => (letM ((IntKind.wrap .i64 (p_129 + p_166))) fun t8_168 => ((getIdx p_159.2.2 y_161).bind fun y_169 => ((getIdx p_159.2.2 y_161).bind fun y_170 => ((setIdx p_159.2.2 y_161 (IntKind.wrap .i64 (y_169 - p_166))).bind fun l3_171 => ((getIdx l3_171 y_161).bind fun y_172 => (jn (fun p_175 : (List Int) × (List Int) => (nx_125 (t8_168,p_159.1,p_175.1,p_175.2,l3_171))) fun k_176 => (if (decide (y_172 = (0 : Int))) = true then ((apd x_124.2.2.2.1 ([t8_168] : List Int)).bind fun l6_173 => ((m86o n p_159.2.1 y_161).bind fun y_174 => (k_176 (y_174,l6_173)))) else (k_176 (p_159.2.1,x_124.2.2.2.1)))))))))) fun k_167 => (if (decide (p_159.1 < (y_17.length : Int))) = true then ((getIdx y_17 p_159.1).bind fun y_163 => ((getIdx a0 y_163).bind fun y_164 => (letM ((if (IntKind.wrap .i64 (y_164.Rl - p_129)) < y_162 then (IntKind.wrap .i64 (y_164.Rl - p_129)) else y_162)) fun t12_165 => (k_167 t12_165)))) else (k_167 y_162)))))) fun k_160 => (loopM (m74_L5 n a0 y_17 p_129 k_160) n (x_124.2.1,x_124.2.2.1,x_124.2.2.2.2)))) fun k_130 => (if (decide ((x_124.2.2.1.length : Int) = (0 : Int))) = true then ((getIdx y_17 x_124.2.1).bind fun y_126 => ((getIdx a0 y_126).bind fun y_127 => (letM ((if y_127.Rl > x_124.1 then y_127.Rl else x_124.1)) fun t8_128 => (k_130 t8_128)))) else (k_130 x_124.1))) else (k_178 x_124.2.2.2.1))
def m74_L1 (n : Nat) (l2_1 : (List Int)) (k_16 : (List Int) → Option (List Int)) (nx_11 : (Int × (List Int)) → Option (List Int)) (x_10 : (Int × (List Int))) : Option (List Int) :=
  (if (decide (x_10.1 < (l2_1.length : Int))) = true then ((getIdx x_10.2 x_10.1).bind fun y_12 => ((setIdx x_10.2 x_10.1 x_10.1).bind fun l2_13 => (letM ((IntKind.wrap .i64 (x_10.1 + (1 : Int)))) fun t18_14 => (nx_11 (t18_14,l2_13))))) else (k_16 x_10.2))
def m74 (n : Nat) (a0 : (List R63)) : Option (List Int) :=
  ((mk (0 : Int) (a0.length : Int) (a0.length : Int)).bind fun l2_1 => (jn (fun p_15 : (List Int) => ((m80 n p_15 a0).bind fun y_17 => (asrt (p_15.length = y_17.length) ((mk (0 : Int) (a0.length : Int) (a0.length : Int)).bind fun l3_19 => (jn (fun p_177 : (List Int) => (some p_177)) fun k_178 => (loopM (m74_L4 n a0 y_17 k_178) n ((0 : Int),(0 : Int),([] : List Int),([] : List Int),l3_19))))))) fun k_16 => (loopM (m74_L1 n l2_1 k_16) n ((0 : Int),l2_1))))
def m64_L2 (n : Nat) (y_16 : (List Int)) (y_18 : (List Int)) (k_36 : Int → Option Int) (nx_30 : (Int × Int) → Option Int) (x_29 : (Int × Int)) : Option Int :=
  (if (decide (x_29.2 < (y_18.length : Int))) = true then ((getIdx y_18 x_29.2).bind fun y_31 => ((getIdx y_16 x_29.2).bind fun y_32 => (letM ((IntKind.wrap .i64 (x_29.1 + (if (IntKind.wrap .i64 (y_31 - y_32)) > (0 : Int) then (IntKind.wrap .i64 (y_31 - y_32)) else (0 : Int))))) fun t6_33 => (letM ((IntKind.wrap .i64 (x_29.2 + (1 : Int)))) fun t26_34 => (nx_30 (t6_33,t26_34)))))) else (k_36 x_29.1))
def m64_L1 (n : Nat) (a0 : (List R63)) (k_15 : (List Int) → Option Int) (nx_10 : (Int × (List Int)) → Option Int) (x_9 : (Int × (List Int))) : Option Int :=
  (if (decide (x_9.1 < (a0.length : Int))) = true then ((getIdx a0 x_9.1).bind fun y_11 => ((apd x_9.2 ([y_11.Due] : List Int)).bind fun l1_12 => (letM ((IntKind.wrap .i64 (x_9.1 + (1 : Int)))) fun t11_13 => (nx_10 (t11_13,l1_12))))) else (k_15 x_9.2))
def m64 (n : Nat) (a0 : (List R63)) : Option Int :=
  (jn (fun p_14 : (List Int) => ((m73 n p_14).bind fun y_16 => (asrt (p_14.length = y_16.length) ((m74 n a0).bind fun y_18 => (jn (fun p_35 : Int => (some p_35)) fun k_36 => (loopM (m64_L2 n y_16 y_18 k_36) n ((0 : Int),(0 : Int)))))))) fun k_15 => (loopM (m64_L1 n a0 k_15) n ((0 : Int),([] : List Int))))
def m42_L1 (n : Nat) (a0 : R36) (p_3 : Int) (k_31 : (List R63) → Option Int) (nx_22 : (Int × (List R63)) → Option Int) (x_21 : (Int × (List R63))) : Option Int :=
  (if (decide (x_21.1 < (a0.Jb.length : Int))) = true then ((getIdx a0.Jb x_21.1).bind fun y_23 => ((m51 n a0.Dn x_21.1).bind fun y_24 => (jn (fun p_27 : (List R63) => (letM ((IntKind.wrap .i64 (x_21.1 + (1 : Int)))) fun t26_29 => (nx_22 (t26_29,p_27)))) fun k_28 => (if (!y_24) = true then (letM ((if p_3 > y_23.Rl then p_3 else y_23.Rl)) fun c_25 => ((apd x_21.2 ([(R63.mk c_25 y_23.Ln y_23.Due)] : List R63)).bind fun l2_26 => (k_28 l2_26))) else (k_28 x_21.2))))) else (k_31 x_21.2))
def m42 (n : Nat) (a0 : R36) : Option Int :=
  ((m57 n a0.Jb a0.Dn).bind fun y_1 => (jn (fun p_3 : Int => (jn (fun p_30 : (List R63) => ((m35 n a0.Jb a0.Dn a0.Mt).bind fun y_32 => (if (!a0.Mt) = true then ((m64 n p_30).bind fun y_33 => (letM ((IntKind.wrap .i64 (y_32 + y_33))) fun t2_34 => (some t2_34))) else (if (decide ((p_30.length : Int) = (0 : Int))) = true then (some y_32) else (if (decide ((a0.Dn.length : Int) = (0 : Int))) = true then ((m46 n p_30 (1 : Int)).bind fun y_35 => (some y_35)) else ((m46 n p_30 (1 : Int)).bind fun y_36 => (letM ((if y_36 > y_32 then y_36 else y_32)) fun t2_37 => (some t2_37)))))))) fun k_31 => (loopM (m42_L1 n a0 p_3 k_31) n ((0 : Int),([] : List R63))))) fun k_4 => (if (decide ((0 : Int) < (y_1.length : Int))) = true then ((getIdx y_1 (IntKind.wrap .i64 ((y_1.length : Int) - (1 : Int)))).bind fun y_2 => (k_4 y_2)) else (k_4 (0 : Int)))))
def m30 (n : Nat) (a0 : R36) (a1 : (List Int)) : Option Bool :=
  ((gdO (decide ((a1.length : Int) = (0 : Int))) (m27 n (R36.mk a0.Jb a0.Dn a0.Mt a0.Bo)) default).bind fun y_1 => ((gdO ((decide ((a1.length : Int) = (0 : Int))) && y_1) (m42 n (R36.mk a0.Jb a0.Dn a0.Mt a0.Bo)) default).bind fun y_2 => (some (((decide ((a1.length : Int) = (0 : Int))) && y_1) && (decide (a0.Bo ≤ y_2))))))
def m52o (n : Nat) (a0 : (List Int)) : Option (List Int) :=
  ((apd ([] : List Int) a0).bind fun l1_2 => (some l1_2))
def m29_L1 (n : Nat) (a0 : R36) (k_28 : (List R36) → Option ((List R36) × Bool)) (nx_19 : (Int × (List R36)) → Option ((List R36) × Bool)) (x_18 : (Int × (List R36))) : Option ((List R36) × Bool) :=
  (if (decide (x_18.1 < (a0.Jb.length : Int))) = true then ((m51 n a0.Dn x_18.1).bind fun y_20 => (jn (fun p_24 : (List R36) => (letM ((IntKind.wrap .i64 (x_18.1 + (1 : Int)))) fun t27_26 => (nx_19 (t27_26,p_24)))) fun k_25 => (if (!y_20) = true then ((m52o n a0.Dn).bind fun y_21 => ((apd y_21 ([x_18.1] : List Int)).bind fun l3_22 => ((apd x_18.2 ([(R36.mk a0.Jb l3_22 a0.Mt a0.Bo)] : List R36)).bind fun l2_23 => (k_25 l2_23)))) else (k_25 x_18.2)))) else (k_28 x_18.2))
def m29 (n : Nat) (a0 : R36) (a1 : Int) : Option ((List R36) × Bool) :=
  ((gdO (!(!decide (a1 = (0 : Int)))) (m27 n (R36.mk a0.Jb a0.Dn a0.Mt a0.Bo)) default).bind fun y_1 => (if (((!decide (a1 = (0 : Int))) || (!y_1)) || (decide ((a0.Dn.length : Int) = (a0.Jb.length : Int)))) = true then (some (([] : List R36),false)) else (jn (fun p_27 : (List R36) => (some (p_27,true))) fun k_28 => (loopM (m29_L1 n a0 k_28) n ((0 : Int),([] : List R36))))))
def m50_L1 (n : Nat) (a1 : R40) (rc_0 : R36 → R40 → (List Int) → Option (Bool × (List Int))) (y_2 : ((List R36) × Bool)) (k_26 : (List Int) → Option (Bool × (List Int))) (nx_18 : (Int × (List Int)) → Option (Bool × (List Int))) (x_17 : (Int × (List Int))) : Option (Bool × (List Int)) :=
  (if (decide (x_17.1 < (a1.Kd.length : Int))) = true then ((getIdx a1.Kd x_17.1).bind fun y_19 => ((apd x_17.2 ([x_17.1] : List Int)).bind fun l4_20 => ((getIdx y_2.1 x_17.1).bind fun y_21 => ((rc_0 (R36.mk y_21.Jb y_21.Dn y_21.Mt y_21.Bo) (R40.mk y_19.out.Sp y_19.out.Kd y_19.out.Lf) l4_20).bind fun y_22 => (if y_22.1 = true then (some (true,y_22.2)) else ((slc y_22.2 (0 : Int) (IntKind.wrap .i64 ((y_22.2.length : Int) - (1 : Int)))).bind fun l4_23 => (letM ((IntKind.wrap .i64 (x_17.1 + (1 : Int)))) fun t44_24 => (nx_18 (t44_24,l4_23))))))))) else (k_26 x_17.2))
def m50B (n : Nat) (rc_0 : R36 → R40 → (List Int) → Option (Bool × (List Int))) (a0 : R36) (a1 : R40) (a4_b0_b : (List Int)) : Option (Bool × (List Int)) :=
  (if (decide ((a1.Kd.length : Int) = (0 : Int))) = true then ((m30 n (R36.mk a0.Jb a0.Dn a0.Mt a0.Bo) a1.Lf).bind fun y_1 => (some ((!y_1),a4_b0_b))) else ((m29 n (R36.mk a0.Jb a0.Dn a0.Mt a0.Bo) a1.Sp).bind fun y_2 => (if ((!y_2.2) || (!decide ((y_2.1.length : Int) = (a1.Kd.length : Int)))) = true then (some (true,a4_b0_b)) else (jn (fun p_25 : (List Int) => (some (false,p_25))) fun k_26 => (loopM (m50_L1 n a1 rc_0 y_2 k_26) n ((0 : Int),a4_b0_b))))))
def m50F (n : Nat) : Nat → R36 → R40 → (List Int) → Option (Bool × (List Int))
  | 0 => fun _ _ _ => none
  | f + 1 => m50B n (m50F n f)
def m50 (n : Nat) (a0 : R36) (a1 : R40) (a4_b0_b : (List Int)) : Option (Bool × (List Int)) := m50F n n a0 a1 a4_b0_b
def m28 (n : Nat) (a0 : R36) (a1 : R40) : Option ((List Int) × Int) :=
  ((m22 n (R40.mk a1.Sp a1.Kd a1.Lf)).bind fun y_1 => (if (!y_1) = true then (some (([] : List Int),(1 : Int))) else ((m50 n (R36.mk a0.Jb a0.Dn a0.Mt a0.Bo) (R40.mk a1.Sp a1.Kd a1.Lf) ([] : List Int)).bind fun y_2 => (if y_2.1 = true then (some (y_2.2,(21 : Int))) else (some (([] : List Int),(0 : Int)))))))
def m7 (n : Nat) (a0 : R36) (a1 : R40) : Option ((List Int) × Int) :=
  ((m27 n (R36.mk a0.Jb a0.Dn a0.Mt a0.Bo)).bind fun y_1 => (if (!y_1) = true then (some (([] : List Int),(1 : Int))) else ((m28 n (R36.mk a0.Jb a0.Dn a0.Mt a0.Bo) (R40.mk a1.Sp a1.Kd a1.Lf)).bind fun y_2 => (some (y_2.1,y_2.2)))))
def m19_L1 (n : Nat) (a0 : (List R63)) (k_15 : Unit → Option Bool) (nx_10 : Int → Option Bool) (x_9 : Int) : Option Bool :=
  (if (decide (x_9 < (a0.length : Int))) = true then ((getIdx a0 x_9).bind fun y_11 => (letM (((((((decide (y_11.Rl < (0 : Int))) || (decide ((100000 : Int) < y_11.Rl))) || (decide (y_11.Ln < (1 : Int)))) || (decide ((10000 : Int) < y_11.Ln))) || (decide (y_11.Due < (0 : Int)))) || (decide ((1000000 : Int) < y_11.Due)))) fun t42_12 => (if t42_12 = true then (some false) else (letM ((IntKind.wrap .i64 (x_9 + (1 : Int)))) fun t3_13 => (nx_10 t3_13))))) else (k_15 ()))
def m19 (n : Nat) (a0 : (List R63)) : Option Bool :=
  (jn (fun p_14 : Unit => (some (decide ((a0.length : Int) ≤ (40 : Int))))) fun k_15 => (loopM (m19_L1 n a0 k_15) n (0 : Int)))
def m58_L1 (n : Nat) (a0 : (List Int)) (a1 : Int) (k_12 : Unit → Option Bool) (nx_8 : Int → Option Bool) (x_7 : Int) : Option Bool :=
  (if (decide (x_7 < (a0.length : Int))) = true then ((getIdx a0 x_7).bind fun y_9 => (if (decide (y_9 = a1)) = true then (some true) else (letM ((IntKind.wrap .i64 (x_7 + (1 : Int)))) fun t5_10 => (nx_8 t5_10)))) else (k_12 ()))
def m58 (n : Nat) (a0 : (List Int)) (a1 : Int) : Option Bool :=
  (jn (fun p_11 : Unit => (some false)) fun k_12 => (loopM (m58_L1 n a0 a1 k_12) n (0 : Int)))
def m36_L1 (n : Nat) (a0 : (List R63)) (a1 : (List Int)) (k_24 : Unit → Option Bool) (nx_16 : Int → Option Bool) (x_15 : Int) : Option Bool :=
  (if (decide (x_15 < (a1.length : Int))) = true then ((getIdx a1 x_15).bind fun y_17 => ((gdO (!(decide (y_17 < (0 : Int)))) (getIdx a1 x_15) default).bind fun y_18 => ((gdO (!((decide (y_17 < (0 : Int))) || (decide ((a0.length : Int) ≤ y_18)))) (slc a1 (0 : Int) x_15) default).bind fun s_19 => ((gdO (!((decide (y_17 < (0 : Int))) || (decide ((a0.length : Int) ≤ y_18)))) (getIdx a1 x_15) default).bind fun y_20 => ((gdO (!((decide (y_17 < (0 : Int))) || (decide ((a0.length : Int) ≤ y_18)))) (m58 n s_19 y_20) default).bind fun y_21 => (if (((decide (y_17 < (0 : Int))) || (decide ((a0.length : Int) ≤ y_18))) || y_21) = true then (some false) else (letM ((IntKind.wrap .i64 (x_15 + (1 : Int)))) fun t5_22 => (nx_16 t5_22)))))))) else (k_24 ()))
def m36 (n : Nat) (a0 : (List R63)) (a1 : (List Int)) : Option Bool :=
  (jn (fun p_23 : Unit => (some true)) fun k_24 => (loopM (m36_L1 n a0 a1 k_24) n (0 : Int)))
def m31 (n : Nat) (a0 : R24) : Option Bool :=
  ((gdO (decide ((0 : Int) < (a0.Jb.length : Int))) (m19 n a0.Jb) default).bind fun y_1 => ((gdO ((decide ((0 : Int) < (a0.Jb.length : Int))) && y_1) (m36 n a0.Jb a0.Dn) default).bind fun y_2 => (some (((((decide ((0 : Int) < (a0.Jb.length : Int))) && y_1) && y_2) && (decide ((-1073741824 : Int) ≤ a0.Bo))) && (decide (a0.Bo ≤ (1073741824 : Int)))))))
def m69 (n : Nat) (a0 : Int) : Option Bool :=
  (some ((decide ((-1073741824 : Int) ≤ a0)) && (decide (a0 ≤ (1073741824 : Int)))))
def m53_L2 (n : Nat) (a0 : R27) (rc_0 : R27 → Option Bool) (k_32 : Unit → Option Bool) (nx_27 : Int → Option Bool) (x_26 : Int) : Option Bool :=
  (if (decide (x_26 < (a0.Kd.length : Int))) = true then ((getIdx a0.Kd x_26).bind fun y_28 => ((rc_0 (R27.mk y_28.out.Sp y_28.out.Kd y_28.out.Lf)).bind fun y_29 => (if (!y_29) = true then (some false) else (letM ((IntKind.wrap .i64 (x_26 + (1 : Int)))) fun t4_30 => (nx_27 t4_30))))) else (k_32 ()))
def m53_L1 (n : Nat) (a0 : R27) (k_17 : Unit → Option Bool) (nx_12 : Int → Option Bool) (x_11 : Int) : Option Bool :=
  (if (decide (x_11 < (a0.Lf.length : Int))) = true then ((getIdx a0.Lf x_11).bind fun y_13 => ((m69 n y_13).bind fun y_14 => (if (!y_14) = true then (some false) else (letM ((IntKind.wrap .i64 (x_11 + (1 : Int)))) fun t3_15 => (nx_12 t3_15))))) else (k_17 ()))
def m53B (n : Nat) (rc_0 : R27 → Option Bool) (a0 : R27) : Option Bool :=
  ((m69 n a0.Sp).bind fun y_1 => (letM ((((((!y_1) || (decide ((100 : Int) < (a0.Kd.length : Int)))) || (decide ((40 : Int) < (a0.Lf.length : Int)))) || ((decide ((0 : Int) < (a0.Kd.length : Int))) && (decide ((0 : Int) < (a0.Lf.length : Int))))) || ((decide ((a0.Kd.length : Int) = (0 : Int))) && (!decide (a0.Sp = (0 : Int)))))) fun t43_2 => (if t43_2 = true then (some false) else (jn (fun p_16 : Unit => (jn (fun p_31 : Unit => (some true)) fun k_32 => (loopM (m53_L2 n a0 rc_0 k_32) n (0 : Int)))) fun k_17 => (loopM (m53_L1 n a0 k_17) n (0 : Int))))))
def m53F (n : Nat) : Nat → R27 → Option Bool
  | 0 => fun _ => none
  | f + 1 => m53B n (m53F n f)
def m53 (n : Nat) (a0 : R27) : Option Bool := m53F n n a0
def m54_L1 (n : Nat) (a0 : R27) (rc_0 : R27 → Option Int) (k_18 : Int → Option Int) (nx_12 : (Int × Int) → Option Int) (x_11 : (Int × Int)) : Option Int :=
  (if (decide (x_11.2 < (a0.Kd.length : Int))) = true then ((getIdx a0.Kd x_11.2).bind fun y_13 => ((rc_0 (R27.mk y_13.out.Sp y_13.out.Kd y_13.out.Lf)).bind fun y_14 => (letM ((if y_14 > x_11.1 then y_14 else x_11.1)) fun t3_15 => (letM ((IntKind.wrap .i64 (x_11.2 + (1 : Int)))) fun t4_16 => (nx_12 (t3_15,t4_16)))))) else (k_18 x_11.1))
def m54B (n : Nat) (rc_0 : R27 → Option Int) (a0 : R27) : Option Int :=
  (jn (fun p_17 : Int => (letM ((IntKind.wrap .i64 (p_17 + (1 : Int)))) fun t2_19 => (some t2_19))) fun k_18 => (loopM (m54_L1 n a0 rc_0 k_18) n ((0 : Int),(0 : Int))))
def m54F (n : Nat) : Nat → R27 → Option Int
  | 0 => fun _ => none
  | f + 1 => m54B n (m54F n f)
def m54 (n : Nat) (a0 : R27) : Option Int := m54F n n a0
def m32 (n : Nat) (a0 : R27) : Option Bool :=
  ((m53 n (R27.mk a0.Sp a0.Kd a0.Lf)).bind fun y_1 => ((gdO y_1 (m26 n (R27.mk a0.Sp a0.Kd a0.Lf)) default).bind fun y_2 => ((gdO (y_1 && (decide (y_2 ≤ (2000 : Int)))) (m54 n (R27.mk a0.Sp a0.Kd a0.Lf)) default).bind fun y_3 => (some ((y_1 && (decide (y_2 ≤ (2000 : Int)))) && (decide (y_3 ≤ (40 : Int))))))))
def m59_L1 (n : Nat) (a0 : (List R63)) (a1 : (List Int)) (k_29 : (List Int) → Option ((List Int) × Int)) (nx_20 : (Int × Int × (List Int)) → Option ((List Int) × Int)) (x_19 : (Int × Int × (List Int))) : Option ((List Int) × Int) :=
  (if (decide (x_19.2.1 < (a1.length : Int))) = true then ((getIdx a1 x_19.2.1).bind fun y_21 => ((getIdx a0 y_21).bind fun y_22 => ((getIdx a1 x_19.2.1).bind fun y_23 => ((getIdx a0 y_23).bind fun y_24 => (letM ((IntKind.wrap .i64 ((if y_22.Rl > x_19.1 then y_22.Rl else x_19.1) + y_24.Ln))) fun t7_25 => ((apd x_19.2.2 ([t7_25] : List Int)).bind fun l1_26 => (letM ((IntKind.wrap .i64 (x_19.2.1 + (1 : Int)))) fun t8_27 => (nx_20 (t7_25,t8_27,l1_26))))))))) else (k_29 x_19.2.2))
def m59 (n : Nat) (a0 : (List R63)) (a1 : (List Int)) : Option ((List Int) × Int) :=
  ((m19 n a0).bind fun y_1 => (if (!y_1) = true then (some (([] : List Int),(1 : Int))) else ((m36 n a0 a1).bind fun y_2 => (if (!y_2) = true then (some (([] : List Int),(22 : Int))) else (jn (fun p_28 : (List Int) => (some (p_28,(0 : Int)))) fun k_29 => (loopM (m59_L1 n a0 a1 k_29) n ((0 : Int),(0 : Int),([] : List Int))))))))
def m37_L1 (n : Nat) (a0 : (List R63)) (a1 : (List Int)) (y_1 : ((List Int) × Int)) (k_22 : Int → Option (Int × Int)) (nx_15 : (Int × Int) → Option (Int × Int)) (x_14 : (Int × Int)) : Option (Int × Int) :=
  (if (decide (x_14.2 < (y_1.1.length : Int))) = true then ((getIdx y_1.1 x_14.2).bind fun y_16 => ((getIdx a1 x_14.2).bind fun y_17 => ((getIdx a0 y_17).bind fun y_18 => (letM ((IntKind.wrap .i64 (x_14.1 + (if (IntKind.wrap .i64 (y_16 - y_18.Due)) > (0 : Int) then (IntKind.wrap .i64 (y_16 - y_18.Due)) else (0 : Int))))) fun t8_19 => (letM ((IntKind.wrap .i64 (x_14.2 + (1 : Int)))) fun t9_20 => (nx_15 (t8_19,t9_20))))))) else (k_22 x_14.1))
def m37 (n : Nat) (a0 : (List R63)) (a1 : (List Int)) : Option (Int × Int) :=
  ((m59 n a0 a1).bind fun y_1 => (jn (fun p_21 : Int => (some (p_21,y_1.2))) fun k_22 => (loopM (m37_L1 n a0 a1 y_1 k_22) n ((0 : Int),(0 : Int)))))
def m88_L5 (n : Nat) (a0 : (List R63)) (x_147 : Int × (List Int) × (List Int)) (k_199 : (Int × Int) → Option ((List Int) × Int)) (nx_182 : (Int × Int × Int) → Option ((List Int) × Int)) (x_181 : (Int × Int × Int)) : Option ((List Int) × Int) :=
  (if (decide (x_181.2.2 < (a0.length : Int))) = true then ((getIdx x_147.2.1 x_181.2.2).bind fun y_183 => (jn (fun p_195 : Int × Int => (letM ((IntKind.wrap .i64 (x_181.2.2 + (1 : Int)))) fun t10_197 => (nx_182 (p_195.1,p_195.2,t10_197)))) fun k_196 => (if (decide (y_183 = (0 : Int))) = true then (k_196 (x_181.1,x_181.2.1)) else ((getIdx a0 x_181.2.2).bind fun y_184 => (jn (fun p_193 : Int × Int => (k_196 (p_193.1,p_193.2))) fun k_194 => (if (decide (x_147.1 < y_184.Rl)) = true then ((gdO (!(decide (x_181.2.1 < (0 : Int)))) (getIdx a0 x_181.2.2) default).bind fun y_185 => (jn (fun p_187 : Int => (k_194 (x_181.1,p_187))) fun k_188 => (if ((decide (x_181.2.1 < (0 : Int))) || (decide (y_185.Rl < x_181.2.1))) = true then ((getIdx a0 x_181.2.2).bind fun y_186 => (k_188 y_186.Rl)) else (k_188 x_181.2.1)))) else ((gdO (!(decide (x_181.1 < (0 : Int)))) (getIdx x_147.2.1 x_181.2.2) default).bind fun y_189 => ((gdO (!(decide (x_181.1 < (0 : Int)))) (getIdx x_147.2.1 x_181.1) default).bind fun y_190 => (jn (fun p_191 : Int => (k_194 (p_191,x_181.2.1))) fun k_192 => (if ((decide (x_181.1 < (0 : Int))) || (decide (y_189 < y_190))) = true then (k_192 x_181.2.2) else (k_192 x_181.1))))))))))) else (k_199 (x_181.1,x_181.2.1)))
def m88_L4 (n : Nat) (a0 : (List R63)) (k_214 : (List Int) → Option ((List Int) × Int)) (nx_148 : (Int × (List Int) × (List Int)) → Option ((List Int) × Int)) (x_147 : (Int × (List Int) × (List Int))) : Option ((List Int) × Int) :=
  (if (decide ((x_147.2.2.length : Int) < (a0.length : Int))) = true then (jn (fun p_198 : Int × Int => (jn (fun p_211 : Int × (List Int) × (List Int) => (nx_148 (p_211.1,p_211.2.1,p_211.2.2))) fun k_212 => (if (decide (p_198.1 < (0 : Int))) = true then (k_212 (p_198.2,x_147.2.1,x_147.2.2)) else ((gdO (decide ((0 : Int) ≤ p_198.2)) (getIdx x_147.2.1 p_198.1) default).bind fun y_200 => (jn (fun p_209 : Int × (List Int) × (List Int) => (k_212 (p_209.1,p_209.2.1,p_209.2.2))) fun k_210 => (if ((decide ((0 : Int) ≤ p_198.2)) && (decide (p_198.2 < (IntKind.wrap .i64 (x_147.1 + y_200))))) = true then ((getIdx x_147.2.1 p_198.1).bind fun y_201 => ((getIdx x_147.2.1 p_198.1).bind fun y_202 => ((setIdx x_147.2.1 p_198.1 (IntKind.wrap .i64 (y_201 - (IntKind.wrap .i64 (p_198.2 - x_147.1))))).bind fun l1_203 => (k_210 (p_198.2,l1_203,x_147.2.2))))) else ((getIdx x_147.2.1 p_198.1).bind fun y_204 => (letM ((IntKind.wrap .i64 (x_147.1 + y_204))) fun t7_205 => ((getIdx x_147.2.1 p_198.1).bind fun y_206 => ((setIdx x_147.2.1 p_198.1 (0 : Int)).bind fun l1_207 => ((apd x_147.2.2 ([t7_205] : List Int)).bind fun l3_208 => (k_210 (t7_205,l1_207,l3_208))))))))))))) fun k_199 => (loopM (m88_L5 n a0 x_147 k_199) n ((-1 : Int),(-1 : Int),(0 : Int)))) else (k_214 x_147.2.2))
def m88_L1 (n : Nat) (a0 : (List R63)) (k_16 : (List Int) → Option ((List Int) × Int)) (nx_11 : (Int × (List Int)) → Option ((List Int) × Int)) (x_10 : (Int × (List Int))) : Option ((List Int) × Int) :=
  (if (decide (x_10.1 < (a0.length : Int))) = true then ((getIdx a0 x_10.1).bind fun y_12 => ((apd x_10.2 ([y_12.Ln] : List Int)).bind fun l1_13 => (letM ((IntKind.wrap .i64 (x_10.1 + (1 : Int)))) fun t6_14 => (nx_11 (t6_14,l1_13))))) else (k_16 x_10.2))
def m88 (n : Nat) (a0 : (List R63)) : Option ((List Int) × Int) :=
  ((m19 n a0).bind fun y_1 => (if (!y_1) = true then (some (([] : List Int),(1 : Int))) else (jn (fun p_15 : (List Int) => (jn (fun p_213 : (List Int) => (some (p_213,(0 : Int)))) fun k_214 => (loopM (m88_L4 n a0 k_214) n ((0 : Int),p_15,([] : List Int))))) fun k_16 => (loopM (m88_L1 n a0 k_16) n ((0 : Int),([] : List Int))))))
def m89_L4 (n : Nat) (a0 : (List Int)) (x_48 : (List Int) × Int) (k_64 : Int → Option (List Int)) (nx_59 : Int → Option (List Int)) (x_58 : Int) : Option (List Int) :=
  ((gdO (decide ((0 : Int) < x_58)) (getIdx x_48.1 (IntKind.wrap .i64 (x_58 - (1 : Int)))) default).bind fun y_60 => ((gdO (decide ((0 : Int) < x_58)) (getIdx a0 x_48.2) default).bind fun y_61 => (if ((decide ((0 : Int) < x_58)) && (decide (y_61 < y_60))) = true then (letM ((IntKind.wrap .i64 (x_58 - (1 : Int)))) fun t5_62 => (nx_59 t5_62)) else (k_64 x_58))))
def m89_L3 (n : Nat) (a0 : (List Int)) (k_73 : (List Int) → Option (List Int)) (nx_49 : ((List Int) × Int) → Option (List Int)) (x_48 : ((List Int) × Int)) : Option (List Int) :=
  (if (decide (x_48.2 < (a0.length : Int))) = true then (jn (fun p_63 : Int => ((slc x_48.1 (0 : Int) p_63).bind fun s_65 => ((getIdx a0 x_48.2).bind fun y_66 => ((slc x_48.1 p_63 (x_48.1.length : Int)).bind fun s_67 => ((apd ([y_66] : List Int) s_67).bind fun l1_68 => (asrt (l1_68.length ≠ 0) ((apd s_65 l1_68).bind fun l2_70 => (letM ((IntKind.wrap .i64 (x_48.2 + (1 : Int)))) fun t4_71 => (nx_49 (l2_70,t4_71)))))))))) fun k_64 => (loopM (m89_L4 n a0 x_48 k_64) n (x_48.1.length : Int))) else (k_73 x_48.1))
def m89 (n : Nat) (a0 : (List Int)) : Option (List Int) :=
  (jn (fun p_72 : (List Int) => (some p_72)) fun k_73 => (loopM (m89_L3 n a0 k_73) n (([] : List Int),(0 : Int))))
def m76_L14 (n : Nat) (a0 : (List R63)) (x_272 : Int × Bool × Int) (x_354 : Int × Bool × Int) (k_388 : Int → Option Int) (nx_377 : (Int × Int) → Option Int) (x_376 : (Int × Int)) : Option Int :=
  (if (decide (x_376.2 < (a0.length : Int))) = true then ((getIdx a0 x_376.2).bind fun y_378 => ((getIdx a0 x_272.2.2).bind fun y_379 => ((gdO (decide (y_379.Rl ≤ y_378.Rl)) (getIdx a0 x_376.2) default).bind fun y_380 => ((gdO (decide (y_379.Rl ≤ y_378.Rl)) (getIdx a0 x_354.2.2) default).bind fun y_381 => (jn (fun p_384 : Int => (letM ((IntKind.wrap .i64 (x_376.2 + (1 : Int)))) fun t12_386 => (nx_377 (p_384,t12_386)))) fun k_385 => (if ((decide (y_379.Rl ≤ y_378.Rl)) && (decide (y_380.Due ≤ y_381.Due))) = true then ((getIdx a0 x_376.2).bind fun y_382 => (letM ((IntKind.wrap .i64 (x_376.1 + y_382.Ln))) fun t11_383 => (k_385 t11_383))) else (k_385 x_376.1))))))) else (k_388 x_376.1))
def m76_L13 (n : Nat) (a0 : (List R63)) (x_272 : Int × Bool × Int) (k_396 : (Int × Bool) → Option Int) (nx_355 : (Int × Bool × Int) → Option Int) (x_354 : (Int × Bool × Int)) : Option Int :=
  (if (decide (x_354.2.2 < (a0.length : Int))) = true then (jn (fun p_387 : Int => ((getIdx a0 x_272.2.2).bind fun y_389 => ((getIdx a0 x_354.2.2).bind fun y_390 => (letM ((IntKind.wrap .i64 ((IntKind.wrap .i64 (y_389.Rl + p_387)) - y_390.Due))) fun t13_391 => (jn (fun p_392 : Int × Bool => (letM ((IntKind.wrap .i64 (x_354.2.2 + (1 : Int)))) fun t10_394 => (nx_355 (p_392.1,p_392.2,t10_394)))) fun k_393 => (if ((decide ((0 : Int) < p_387)) && ((!x_354.2.1) || (decide (x_354.1 < t13_391)))) = true then (k_393 (t13_391,true)) else (k_393 (x_354.1,x_354.2.1)))))))) fun k_388 => (loopM (m76_L14 n a0 x_272 x_354 k_388) n ((0 : Int),(0 : Int)))) else (k_396 (x_354.1,x_354.2.1)))
def m76_L10 (n : Nat) (a0 : (List R63)) (k_399 : Int → Option Int) (nx_273 : (Int × Bool × Int) → Option Int) (x_272 : (Int × Bool × Int)) : Option Int :=
  (if (decide (x_272.2.2 < (a0.length : Int))) = true then (jn (fun p_395 : Int × Bool => (letM ((IntKind.wrap .i64 (x_272.2.2 + (1 : Int)))) fun t9_397 => (nx_273 (p_395.1,p_395.2,t9_397)))) fun k_396 => (loopM (m76_L13 n a0 x_272 k_396) n (x_272.1,x_272.2.1,(0 : Int)))) else (k_399 x_272.1))
def m76_L16 (n : Nat) (p_20 : Int) (y_424 : ((List Int) × Int)) (y_425 : (List Int)) (k_443 : Int → Option Int) (nx_437 : (Int × Int) → Option Int) (x_436 : (Int × Int)) : Option Int :=
  (if (decide (x_436.2 < (y_424.1.length : Int))) = true then ((getIdx y_424.1 x_436.2).bind fun y_438 => ((getIdx y_425 x_436.2).bind fun y_439 => (letM ((IntKind.wrap .i64 (x_436.1 + (if (IntKind.wrap .i64 ((IntKind.wrap .i64 (y_438 + p_20)) - y_439)) > (0 : Int) then (IntKind.wrap .i64 ((IntKind.wrap .i64 (y_438 + p_20)) - y_439)) else (0 : Int))))) fun t7_440 => (letM ((IntKind.wrap .i64 (x_436.2 + (1 : Int)))) fun t19_441 => (nx_437 (t7_440,t19_441)))))) else (k_443 x_436.1))
def m76_L15 (n : Nat) (a0 : (List R63)) (p_20 : Int) (k_423 : ((List R63) × (List Int)) → Option Int) (nx_415 : (Int × (List R63) × (List Int)) → Option Int) (x_414 : (Int × (List R63) × (List Int))) : Option Int :=
  (if (decide (x_414.1 < (a0.length : Int))) = true then ((getIdx a0 x_414.1).bind fun y_416 => ((getIdx a0 x_414.1).bind fun y_417 => ((apd x_414.2.1 ([(R63.mk (IntKind.wrap .i64 (y_416.Rl - p_20)) y_417.Ln (0 : Int))] : List R63)).bind fun l1_418 => ((getIdx a0 x_414.1).bind fun y_419 => ((apd x_414.2.2 ([y_419.Due] : List Int)).bind fun l2_420 => (letM ((IntKind.wrap .i64 (x_414.1 + (1 : Int)))) fun t16_421 => (nx_415 (t16_421,l1_418,l2_420)))))))) else (k_423 (x_414.2.1,x_414.2.2)))
def m76_L1 (n : Nat) (a0 : (List R63)) (k_21 : Int → Option Int) (nx_14 : (Int × Int) → Option Int) (x_13 : (Int × Int)) : Option Int :=
  (if (decide (x_13.2 < (a0.length : Int))) = true then ((gdO (!(decide (x_13.2 = (0 : Int)))) (getIdx a0 x_13.2) default).bind fun y_15 => (jn (fun p_17 : Int => (letM ((IntKind.wrap .i64 (x_13.2 + (1 : Int)))) fun t6_19 => (nx_14 (p_17,t6_19)))) fun k_18 => (if ((decide (x_13.2 = (0 : Int))) || (decide (y_15.Rl < x_13.1))) = true then ((getIdx a0 x_13.2).bind fun y_16 => (k_18 y_16.Rl)) else (k_18 x_13.1)))) else (k_21 x_13.1))
def m76 (n : Nat) (a0 : (List R63)) (a1 : Bool) : Option Int :=
  (jn (fun p_20 : Int => (if a1 = true then (jn (fun p_398 : Int => (some p_398)) fun k_399 => (loopM (m76_L10 n a0 k_399) n ((0 : Int),false,(0 : Int)))) else (jn (fun p_422 : (List R63) × (List Int) => ((m88 n p_422.1).bind fun y_424 => ((m89 n p_422.2).bind fun y_425 => (jn (fun p_442 : Int => (some p_442)) fun k_443 => (loopM (m76_L16 n p_20 y_424 y_425 k_443) n ((0 : Int),(0 : Int))))))) fun k_423 => (loopM (m76_L15 n a0 p_20 k_423) n ((0 : Int),([] : List R63),([] : List Int)))))) fun k_21 => (loopM (m76_L1 n a0 k_21) n ((0 : Int),(0 : Int))))
def m38_L1 (n : Nat) (a0 : (List R63)) (a1 : (List Int)) (y_1 : ((List Int) × Int)) (k_28 : Int → Option (Int × Int)) (nx_19 : (Int × Int) → Option (Int × Int)) (x_18 : (Int × Int)) : Option (Int × Int) :=
  (if (decide (x_18.2 < (y_1.1.length : Int))) = true then ((getIdx y_1.1 x_18.2).bind fun y_20 => ((getIdx a1 x_18.2).bind fun y_21 => ((getIdx a0 y_21).bind fun y_22 => (letM ((IntKind.wrap .i64 (y_20 - y_22.Due))) fun t10_23 => (jn (fun p_24 : Int => (letM ((IntKind.wrap .i64 (x_18.2 + (1 : Int)))) fun t9_26 => (nx_19 (p_24,t9_26)))) fun k_25 => (if ((decide (x_18.2 = (0 : Int))) || (decide (x_18.1 < t10_23))) = true then (k_25 t10_23) else (k_25 x_18.1))))))) else (k_28 x_18.1))
def m38 (n : Nat) (a0 : (List R63)) (a1 : (List Int)) : Option (Int × Int) :=
  ((m59 n a0 a1).bind fun y_1 => (jn (fun p_27 : Int => (some (p_27,y_1.2))) fun k_28 => (loopM (m38_L1 n a0 a1 y_1 k_28) n ((0 : Int),(0 : Int)))))
def m70_L1 (n : Nat) (a0 : R24) (p_3 : Int) (k_28 : (List R63) → Option Int) (nx_20 : (Int × (List R63)) → Option Int) (x_19 : (Int × (List R63))) : Option Int :=
  (if (decide (x_19.1 < (a0.Jb.length : Int))) = true then ((getIdx a0.Jb x_19.1).bind fun y_21 => ((m58 n a0.Dn x_19.1).bind fun y_22 => (jn (fun p_24 : (List R63) => (letM ((IntKind.wrap .i64 (x_19.1 + (1 : Int)))) fun t7_26 => (nx_20 (t7_26,p_24)))) fun k_25 => (if (!y_22) = true then ((apd x_19.2 ([(R63.mk (if p_3 > y_21.Rl then p_3 else y_21.Rl) y_21.Ln y_21.Due)] : List R63)).bind fun l2_23 => (k_25 l2_23)) else (k_25 x_19.2))))) else (k_28 x_19.2))
def m70 (n : Nat) (a0 : R24) : Option Int :=
  ((m59 n a0.Jb a0.Dn).bind fun y_1 => (jn (fun p_3 : Int => (jn (fun p_27 : (List R63) => (if (!a0.Mt) = true then ((m37 n a0.Jb a0.Dn).bind fun y_29 => ((m76 n p_27 false).bind fun y_30 => (letM ((IntKind.wrap .i64 (y_29.1 + y_30))) fun t2_31 => (some t2_31)))) else ((m38 n a0.Jb a0.Dn).bind fun y_32 => (if (decide ((p_27.length : Int) = (0 : Int))) = true then (some y_32.1) else (if (decide ((a0.Dn.length : Int) = (0 : Int))) = true then ((m76 n p_27 true).bind fun y_33 => (some y_33)) else ((m76 n p_27 true).bind fun y_34 => (letM ((if y_34 > y_32.1 then y_34 else y_32.1)) fun t2_35 => (some t2_35)))))))) fun k_28 => (loopM (m70_L1 n a0 p_3 k_28) n ((0 : Int),([] : List R63))))) fun k_4 => (if (decide ((0 : Int) < (y_1.1.length : Int))) = true then ((getIdx y_1.1 (IntKind.wrap .i64 ((y_1.1.length : Int) - (1 : Int)))).bind fun y_2 => (k_4 y_2)) else (k_4 (0 : Int)))))
def m55 (n : Nat) (a0 : R24) (a1 : (List Int)) : Option Bool :=
  ((m31 n (R24.mk a0.Jb a0.Dn a0.Mt a0.Bo)).bind fun y_1 => ((gdO (y_1 && (decide ((a1.length : Int) = (0 : Int)))) (m70 n (R24.mk a0.Jb a0.Dn a0.Mt a0.Bo)) default).bind fun y_2 => (some ((y_1 && (decide ((a1.length : Int) = (0 : Int)))) && (decide (a0.Bo ≤ y_2))))))
def m56_L1 (n : Nat) (a0 : R24) (k_28 : (List R24) → Option ((List R24) × Bool)) (nx_19 : (Int × (List R24)) → Option ((List R24) × Bool)) (x_18 : (Int × (List R24))) : Option ((List R24) × Bool) :=
  (if (decide (x_18.1 < (a0.Jb.length : Int))) = true then ((m58 n a0.Dn x_18.1).bind fun y_20 => (jn (fun p_24 : (List R24) => (letM ((IntKind.wrap .i64 (x_18.1 + (1 : Int)))) fun t7_26 => (nx_19 (t7_26,p_24)))) fun k_25 => (if (!y_20) = true then ((apd ([] : List Int) a0.Dn).bind fun l3_21 => ((apd l3_21 ([x_18.1] : List Int)).bind fun l3_22 => ((apd x_18.2 ([(R24.mk a0.Jb l3_22 a0.Mt a0.Bo)] : List R24)).bind fun l2_23 => (k_25 l2_23)))) else (k_25 x_18.2)))) else (k_28 x_18.2))
def m56 (n : Nat) (a0 : R24) (a1 : Int) : Option ((List R24) × Bool) :=
  ((m31 n (R24.mk a0.Jb a0.Dn a0.Mt a0.Bo)).bind fun y_1 => (if (((!y_1) || (!decide (a1 = (0 : Int)))) || (decide ((a0.Dn.length : Int) = (a0.Jb.length : Int)))) = true then (some (([] : List R24),false)) else (jn (fun p_27 : (List R24) => (some (p_27,true))) fun k_28 => (loopM (m56_L1 n a0 k_28) n ((0 : Int),([] : List R24))))))
def m33_L1 (n : Nat) (a1 : R27) (rc_0 : R24 → R27 → Option ((List Int) × Bool)) (y_2 : ((List R24) × Bool)) (k_23 : Unit → Option ((List Int) × Bool)) (nx_16 : Int → Option ((List Int) × Bool)) (x_15 : Int) : Option ((List Int) × Bool) :=
  (if (decide (x_15 < (y_2.1.length : Int))) = true then ((getIdx y_2.1 x_15).bind fun y_17 => ((getIdx a1.Kd x_15).bind fun y_18 => ((rc_0 (R24.mk y_17.Jb y_17.Dn y_17.Mt y_17.Bo) (R27.mk y_18.out.Sp y_18.out.Kd y_18.out.Lf)).bind fun y_19 => (if y_19.2 = true then ((apd ([x_15] : List Int) y_19.1).bind fun l3_20 => (some (l3_20,true))) else (letM ((IntKind.wrap .i64 (x_15 + (1 : Int)))) fun t8_21 => (nx_16 t8_21)))))) else (k_23 ()))
def m33B (n : Nat) (rc_0 : R24 → R27 → Option ((List Int) × Bool)) (a0 : R24) (a1 : R27) : Option ((List Int) × Bool) :=
  (if (decide ((a1.Kd.length : Int) = (0 : Int))) = true then ((m55 n (R24.mk a0.Jb a0.Dn a0.Mt a0.Bo) a1.Lf).bind fun y_1 => (some (([] : List Int),(!y_1)))) else ((m56 n (R24.mk a0.Jb a0.Dn a0.Mt a0.Bo) a1.Sp).bind fun y_2 => (if ((!y_2.2) || (!decide ((y_2.1.length : Int) = (a1.Kd.length : Int)))) = true then (some (([] : List Int),true)) else (jn (fun p_22 : Unit => (some (([] : List Int),false))) fun k_23 => (loopM (m33_L1 n a1 rc_0 y_2 k_23) n (0 : Int))))))
def m33F (n : Nat) : Nat → R24 → R27 → Option ((List Int) × Bool)
  | 0 => fun _ _ => none
  | f + 1 => m33B n (m33F n f)
def m33 (n : Nat) (a0 : R24) (a1 : R27) : Option ((List Int) × Bool) := m33F n n a0 a1
def m10 (n : Nat) (a0 : R24) (a1 : R27) : Option ((List Int) × Int) :=
  ((m31 n (R24.mk a0.Jb a0.Dn a0.Mt a0.Bo)).bind fun y_1 => ((gdO (!(!y_1)) (m32 n (R27.mk a1.Sp a1.Kd a1.Lf)) default).bind fun y_2 => (if ((!y_1) || (!y_2)) = true then (some (([] : List Int),(1 : Int))) else ((m33 n (R24.mk a0.Jb a0.Dn a0.Mt a0.Bo) (R27.mk a1.Sp a1.Kd a1.Lf)).bind fun y_3 => (if y_3.2 = true then (some (y_3.1,(21 : Int))) else (some (([] : List Int),(0 : Int))))))))
def m12 (n : Nat) (a0 : (List R63)) (a1 : Bool) (a2 : R44) : Option Bool :=
  ((m34 n a0 a2.Order).bind fun y_1 => ((gdO (!(((!decide (y_1 = (0 : Int))) || (decide ((a0.length : Int) = (0 : Int)))) || (!decide ((a2.Order.length : Int) = (a0.length : Int))))) (m35 n a0 a2.Order a1) default).bind fun y_2 => (letM (((((!decide (y_1 = (0 : Int))) || (decide ((a0.length : Int) = (0 : Int)))) || (!decide ((a2.Order.length : Int) = (a0.length : Int)))) || (!decide (y_2 = a2.Value)))) fun t36_3 => (if t36_3 = true then (some false) else ((m7 n (R36.mk a0 ([] : List Int) a1 a2.Value) (R40.mk a2.Proof.Sp a2.Proof.Kd a2.Proof.Lf)).bind fun y_4 => (some (decide (y_4.2 = (0 : Int)))))))))
def m15 (n : Nat) (a0 : (List R63)) (a1 : (List Int)) (a2 : Bool) : Option Int :=
  ((m37 n a0 a1).bind fun y_1 => (jn (fun p_3 : Int => (some p_3)) fun k_4 => (if a2 = true then ((m38 n a0 a1).bind fun y_2 => (k_4 y_2.1)) else (k_4 y_1.1))))
def m14 (n : Nat) (a0 : (List R63)) (a1 : Bool) (a2 : R46) : Option Bool :=
  ((m19 n a0).bind fun y_1 => ((gdO (!(((!y_1) || (decide ((a0.length : Int) = (0 : Int)))) || (!decide ((a2.Order.length : Int) = (a0.length : Int))))) (m36 n a0 a2.Order) default).bind fun y_2 => ((gdO (!((((!y_1) || (decide ((a0.length : Int) = (0 : Int)))) || (!decide ((a2.Order.length : Int) = (a0.length : Int)))) || (!y_2))) (m15 n a0 a2.Order a1) default).bind fun y_3 => (if (((((!y_1) || (decide ((a0.length : Int) = (0 : Int)))) || (!decide ((a2.Order.length : Int) = (a0.length : Int)))) || (!y_2)) || (!decide (y_3 = a2.Value))) = true then (some false) else ((m10 n (R24.mk a0 ([] : List Int) a1 a2.Value) (R27.mk a2.Proof.Sp a2.Proof.Kd a2.Proof.Lf)).bind fun y_4 => (some (decide (y_4.2 = (0 : Int)))))))))
def m16_L13 (n : Nat) (x_122 : Int × (List Int)) (t11_165 : Int) (k_177 : Bool → Option (List Int)) (nx_173 : (Bool × Int) → Option (List Int)) (x_172 : (Bool × Int)) : Option (List Int) :=
  (if (decide (x_172.2 < (x_122.2.length : Int))) = true then ((getIdx x_122.2 x_172.2).bind fun y_174 => (letM ((IntKind.wrap .i64 (x_172.2 + (1 : Int)))) fun t48_175 => (nx_173 ((x_172.1 && (!decide (y_174 = t11_165))),t48_175)))) else (k_177 x_172.1))
def m16_L12 (n : Nat) (a0 : (List R63)) (x_122 : Int × (List Int)) (p_126 : Int) (k_181 : (List Int) → Option (List Int)) (nx_163 : Int → Option (List Int)) (x_162 : Int) : Option (List Int) :=
  (if (decide (x_162 < (a0.length : Int))) = true then (asrt ((a0.length : Int) ≠ 0) (letM (((IntKind.wrap .i64 (p_126 + x_162)).tmod (a0.length : Int))) fun t11_165 => (jn (fun p_176 : Bool => (if p_176 = true then ((apd x_122.2 ([t11_165] : List Int)).bind fun l1_178 => (k_181 l1_178)) else (letM ((IntKind.wrap .i64 (x_162 + (1 : Int)))) fun t10_179 => (nx_163 t10_179)))) fun k_177 => (loopM (m16_L13 n x_122 t11_165 k_177) n (true,(0 : Int)))))) else (k_181 x_122.2))
def m16_L9 (n : Nat) (a0 : (List R63)) (a2 : (List UInt8)) (k_184 : (List Int) → Option (List Int)) (nx_123 : (Int × (List Int)) → Option (List Int)) (x_122 : (Int × (List Int))) : Option (List Int) :=
  (if (decide ((x_122.2.length : Int) < (a0.length : Int))) = true then (jn (fun p_126 : Int => (jn (fun p_180 : (List Int) => (letM ((IntKind.wrap .i64 (x_122.1 + (1 : Int)))) fun t8_182 => (nx_123 (t8_182,p_180)))) fun k_181 => (loopM (m16_L12 n a0 x_122 p_126 k_181) n (0 : Int)))) fun k_127 => (if (decide (x_122.1 < (a2.length : Int))) = true then ((getIdx a2 x_122.1).bind fun y_124 => (letM ((IntKind.wrap .i64 (y_124.toNat : Int))) fun t9_125 => (k_127 t9_125))) else (k_127 (0 : Int)))) else (k_184 x_122.2))
def m16 (n : Nat) (a0 : (List R63)) (a1 : (List Int)) (a2 : (List UInt8)) : Option (List Int) :=
  ((apd ([] : List Int) a1).bind fun l1_1 => (jn (fun p_183 : (List Int) => (some p_183)) fun k_184 => (loopM (m16_L9 n a0 a2 k_184) n ((0 : Int),l1_1))))
def m17 (n : Nat) (a0 : (List R63)) : Option Bool :=
  (some (decide ((a0.length : Int) ≤ (10 : Int))))
def m41 (n : Nat) (a0 : R36) : Option R86 :=
  ((m42 n (R36.mk a0.Jb a0.Dn a0.Mt a0.Bo)).bind fun y_1 => (if (decide (a0.Bo ≤ y_1)) = true then (some (R86.mk (2 : Int) (0 : Int) ([] : List Int))) else (some (R86.mk (1 : Int) (0 : Int) ([] : List Int)))))
def m61_L1 (n : Nat) (a1 : Int) (rc_0 : R36 → Int → Int → Option (R40 × Int × Int)) (y_5 : ((List R36) × Bool)) (k_24 : (Int × (List K40)) → Option (R40 × Int × Int)) (nx_18 : (Int × Int × (List K40)) → Option (R40 × Int × Int)) (x_17 : (Int × Int × (List K40))) : Option (R40 × Int × Int) :=
  (if (decide (x_17.1 < (y_5.1.length : Int))) = true then ((getIdx y_5.1 x_17.1).bind fun y_19 => ((rc_0 (R36.mk y_19.Jb y_19.Dn y_19.Mt y_19.Bo) (IntKind.wrap .i64 (a1 + (1 : Int))) x_17.2.1).bind fun y_20 => (if (!decide (y_20.2.1 = (0 : Int))) = true then (some ((R40.mk (0 : Int) ([] : List K40) ([] : List Int)),y_20.2.1,y_20.2.2)) else ((apk x_17.2.2 ([(K40.of (R40.mk y_20.1.Sp y_20.1.Kd y_20.1.Lf))] : List K40)).bind fun l10_21 => (letM ((IntKind.wrap .i64 (x_17.1 + (1 : Int)))) fun t80_22 => (nx_18 (t80_22,y_20.2.2,l10_21))))))) else (k_24 (x_17.2.1,x_17.2.2)))
def m61B (n : Nat) (rc_0 : R36 → Int → Int → Option (R40 × Int × Int)) (a0 : R36) (a1 : Int) (a2_b0 : Int) : Option (R40 × Int × Int) :=
  (letM ((IntKind.wrap .i64 (a2_b0 + (1 : Int)))) fun c_1 => (if ((decide ((2000 : Int) < c_1)) || (decide ((40 : Int) < a1))) = true then (some ((R40.mk (0 : Int) ([] : List K40) ([] : List Int)),(9 : Int),c_1)) else ((m41 n (R36.mk a0.Jb a0.Dn a0.Mt a0.Bo)).bind fun y_2 => (if (decide (y_2.Kind = (2 : Int))) = true then ((m52 n y_2.Lf).bind fun y_3 => ((m62 n (R40.mk (0 : Int) ([] : List K40) y_3)).bind fun y_4 => (if (!y_4) = true then (some ((R40.mk (0 : Int) ([] : List K40) ([] : List Int)),(9 : Int),c_1)) else (some ((R40.mk (0 : Int) ([] : List K40) y_3),(0 : Int),c_1))))) else (if (decide (y_2.Kind = (1 : Int))) = true then ((m29 n (R36.mk a0.Jb a0.Dn a0.Mt a0.Bo) y_2.Sp).bind fun y_5 => (if ((!y_5.2) || (decide ((y_5.1.length : Int) = (0 : Int)))) = true then (some ((R40.mk (0 : Int) ([] : List K40) ([] : List Int)),(8 : Int),c_1)) else ((gdO (!(decide ((100 : Int) < (y_5.1.length : Int)))) (m63 n y_2.Sp) default).bind fun y_6 => (if ((decide ((100 : Int) < (y_5.1.length : Int))) || (!y_6)) = true then (some ((R40.mk (0 : Int) ([] : List K40) ([] : List Int)),(9 : Int),c_1)) else (jn (fun p_23 : Int × (List K40) => (some ((R40.mk y_2.Sp p_23.2 ([] : List Int)),(0 : Int),p_23.1))) fun k_24 => (loopM (m61_L1 n a1 rc_0 y_5 k_24) n ((0 : Int),c_1,([] : List K40)))))))) else (some ((R40.mk (0 : Int) ([] : List K40) ([] : List Int)),(8 : Int),c_1)))))))
def m61F (n : Nat) : Nat → R36 → Int → Int → Option (R40 × Int × Int)
  | 0 => fun _ _ _ => none
  | f + 1 => m61B n (m61F n f)
def m61 (n : Nat) (a0 : R36) (a1 : Int) (a2_b0 : Int) : Option (R40 × Int × Int) := m61F n n a0 a1 a2_b0
def m40 (n : Nat) (a0 : R36) : Option (R40 × Int) :=
  ((m61 n (R36.mk a0.Jb a0.Dn a0.Mt a0.Bo) (1 : Int) (0 : Int)).bind fun y_1 => (some ((R40.mk y_1.1.Sp y_1.1.Kd y_1.1.Lf),y_1.2.1)))
def m18 (n : Nat) (a0 : (List R63)) (a1 : Bool) : Option (R44 × Int) :=
  ((m25 n a0).bind fun y_1 => (if (!y_1) = true then (some ((R44.mk ([] : List Int) (0 : Int) (R40.mk (0 : Int) ([] : List K40) ([] : List Int))),(1 : Int))) else (if (decide ((a0.length : Int) = (0 : Int))) = true then (some ((R44.mk ([] : List Int) (0 : Int) (R40.mk (0 : Int) ([] : List K40) ([] : List Int))),(8 : Int))) else (if (decide ((7 : Int) < (a0.length : Int))) = true then (some ((R44.mk ([] : List Int) (0 : Int) (R40.mk (0 : Int) ([] : List K40) ([] : List Int))),(9 : Int))) else ((m39 n a0 a1).bind fun y_2 => ((m40 n (R36.mk a0 ([] : List Int) a1 y_2.2)).bind fun y_3 => (if (!decide (y_3.2 = (0 : Int))) = true then (some ((R44.mk ([] : List Int) (0 : Int) (R40.mk (0 : Int) ([] : List K40) ([] : List Int))),(9 : Int))) else (some ((R44.mk y_2.1 y_2.2 (R40.mk y_3.1.Sp y_3.1.Kd y_3.1.Lf)),(0 : Int))))))))))
def m20_L1 (n : Nat) (a0 : R40) (rc_0 : R40 → Option R27) (k_18 : (List K27) → Option R27) (nx_12 : (Int × (List K27)) → Option R27) (x_11 : (Int × (List K27))) : Option R27 :=
  (if (decide (x_11.1 < (a0.Kd.length : Int))) = true then ((getIdx a0.Kd x_11.1).bind fun y_13 => ((rc_0 (R40.mk y_13.out.Sp y_13.out.Kd y_13.out.Lf)).bind fun y_14 => ((apk x_11.2 ([(K27.of y_14)] : List K27)).bind fun l4_15 => (letM ((IntKind.wrap .i64 (x_11.1 + (1 : Int)))) fun t14_16 => (nx_12 (t14_16,l4_15)))))) else (k_18 x_11.2))
def m20B (n : Nat) (rc_0 : R40 → Option R27) (a0 : R40) : Option R27 :=
  (jn (fun p_17 : (List K27) => (some (R27.mk a0.Sp p_17 a0.Lf))) fun k_18 => (loopM (m20_L1 n a0 rc_0 k_18) n ((0 : Int),([] : List K27))))
def m20F (n : Nat) : Nat → R40 → Option R27
  | 0 => fun _ => none
  | f + 1 => m20B n (m20F n f)
def m20 (n : Nat) (a0 : R40) : Option R27 := m20F n n a0
def m4 (n : Nat) (a0 : (List R63)) (a1 : Bool) : Option Bool :=
  ((m5 n).bind fun y_1 => ((gdO (!(!y_1)) (m17 n a0) default).bind fun y_2 => (if ((!y_1) || (!y_2)) = true then ((m5 n).bind fun y_3 => (some y_3)) else ((m13 n a0).bind fun y_4 => ((m18 n y_4 a1).bind fun y_5 => ((m19 n a0).bind fun y_6 => (if (!y_6) = true then (some ((decide (y_5.2 = (1 : Int))) && (decide ((y_5.1.Order.length : Int) = (0 : Int))))) else (if (decide ((a0.length : Int) = (0 : Int))) = true then (some (decide (y_5.2 = (8 : Int)))) else (if (!decide (y_5.2 = (0 : Int))) = true then (some (((decide (y_5.2 = (9 : Int))) && (decide ((5 : Int) < (a0.length : Int)))) && (decide ((y_5.1.Order.length : Int) = (0 : Int))))) else ((m20 n (R40.mk y_5.1.Proof.Sp y_5.1.Proof.Kd y_5.1.Proof.Lf)).bind fun y_7 => ((m13 n a0).bind fun y_8 => ((m21 n y_8 a1).bind fun y_9 => ((m14 n a0 a1 (R46.mk y_5.1.Order y_5.1.Value (R27.mk y_7.Sp y_7.Kd y_7.Lf))).bind fun y_10 => ((gdO y_10 (m13 n a0) default).bind fun y_11 => ((gdO y_10 (m12 n y_11 a1 (R44.mk y_5.1.Order y_5.1.Value (R40.mk y_5.1.Proof.Sp y_5.1.Proof.Kd y_5.1.Proof.Lf))) default).bind fun y_12 => ((gdO (y_10 && y_12) (m22 n (R40.mk y_5.1.Proof.Sp y_5.1.Proof.Kd y_5.1.Proof.Lf)) default).bind fun y_13 => (some (((y_10 && y_12) && y_13) && ((decide (y_9.2.2 = (9 : Int))) || ((decide (y_9.2.2 = (0 : Int))) && (decide (y_9.2.1 = y_5.1.Value))))))))))))))))))))))
abbrev gW (b c : Bool) (J : List R63) (d : List Int) (m : Bool) (L : Int) : List AV := [rW b J e63,rW c d eW,bW m,iW L]
abbrev tW {α : Type} (e : α → List AV) (b c : Bool) (s : Int) (k : List α) (l : List Int) : List AV := [iW s,rW b k e,rW c l eW]
theorem Need.t {C : Ctx} {l : List (Nat × AV)} {E : List (Nat × AV)} {H : List (Nat × Blk)} (h : Need l E) (k : Nat) {d : Nat} {v : AV} (hk : l[k]? = some (d,v)) : Ev C ⟨E,H⟩ (.tmp d) v := .tmp (h.at hk)
theorem AWP.vs {C : Ctx} {c : Code} {Q : Exit → St → Prop} {s : St} (s' : St) (h1 : lkE s'.env s.env = smE s'.env) (h2 : lkH s'.heap s.heap = smH s'.heap) (k : AWP C c Q s') : AWP C c Q s := AWP.vc (VC.sub (SubE.of h1) (SubH.of h2)) k
end Go.AB
