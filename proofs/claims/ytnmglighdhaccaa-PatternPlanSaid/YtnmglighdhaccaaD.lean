import Derived.Test.YtnmglighdhaccaaProg
import Derived.Test.YtnmglighdhaccaaBf
import Derived.KernelRfl
set_option linter.unusedVariables false
set_option maxRecDepth 20000
namespace Go.AB
open Go Go.Proofs
abbrev rW {α : Type} (b : Bool) (l : List α) (e : α → List AV) : AV := .rd b l.length (l.flatMap e)
abbrev iW (n : Int) : AV := .sc (.int .i64 n)
abbrev bW (b : Bool) : AV := .sc (.bool b)
abbrev eW : Int → List AV := encI .i64
def lkE : List (Nat × AV) → List (Nat × AV) → List (Option AV)
  | [],_ => []
  | (d,_) :: l,e => look d e :: lkE l e
def smE : List (Nat × AV) → List (Option AV)
  | [] => []
  | (_,v) :: l => some v :: smE l
theorem SubE.of : ∀ {l e : List (Nat × AV)},lkE l e = smE l → SubE l e
  | [],_,_ => .n _
  | (d,v) :: l,e,h => by
    simp only [lkE,smE,List.cons.injEq] at h
    exact .c h.1 (SubE.of h.2)
def lkH : List (Nat × Blk) → List (Nat × Blk) → List (Option Blk)
  | [],_ => []
  | (d,_) :: l,e => look d e :: lkH l e
def smH : List (Nat × Blk) → List (Option Blk)
  | [] => []
  | (_,v) :: l => some v :: smH l
theorem SubH.of : ∀ {l e : List (Nat × Blk)},lkH l e = smH l → SubH l e
  | [],_,_ => .n _
  | (d,v) :: l,e,h => by
    simp only [lkH,smH,List.cons.injEq] at h
    exact .c h.1 (SubH.of h.2)
theorem Ev.t {C : Ctx} {s : St} {t : Nat} {v : AV} (h : look t s.env = some v) : Ev C s (.tmp t) v := .tmp h
abbrev dO (ns : List Nat) (d : Nat) (v : AV) : DOp := ⟨ns,0,0,some (d,v),[]⟩
def uI : List Nat → List Nat
  | a :: b :: t => (List.range (b - a)).map (fun x => a + x) ++ uI t
  | _ => []
def dzO : List (Nat × List Nat) → Nat → List Nat
  | [],_ => []
  | (a,l) :: t,k => bif Nat.beq a k then l else dzO t k
def fO (dl : List (Nat × List Nat)) : Nat → Nat → List DOp → Option (List DFact)
  | _,_,[] => some []
  | k,i,⟨_,_,_,some (d,v),_⟩ :: xs => (fO dl (k+1) (i+1) xs).bind fun r => some (⟨d,v,some i,dzO dl k⟩ :: r)
  | k,i,⟨_,_,_,none,_⟩ :: xs => fO dl k (i+1) xs
def fF (dl : List (Nat × List Nat)) (D : List DOp) : Nat → List (Nat × AV) → Option (List DFact)
  | k,[] => fO dl k 0 D
  | k,(d,v) :: fs => (fF dl D (k+1) fs).bind fun r => some (⟨d,v,none,dzO dl k⟩ :: r)
def kF (F : List DFact) (n : Nat) : List Nat → Option (List (Nat × AV))
  | [] => some []
  | k :: ks => match F[k]? with
    | some ⟨d,v,none,[]⟩ => (kF F n ks).bind fun r => some ((d,v) :: r)
    | some ⟨d,v,some j,[]⟩ => bif decide (j < n) then (kF F n ks).bind fun r => some ((d,v) :: r) else none
    | _ => none
def ndB : List Nat → Bool
  | [] => true
  | a :: t => !(t.any (Nat.beq a)) && ndB t
theorem ndB_ok : ∀ {l : List Nat},ndB l = true → l.Nodup
  | [],_ => List.nodup_nil
  | a :: t,h => by
    rw [ndB,Bool.and_eq_true,Bool.not_eq_true',List.any_eq_false] at h
    exact List.nodup_cons.2 ⟨fun ha => h.1 a ha (Nat.beq_refl a),ndB_ok h.2⟩
def dwB (R : List (List Nat)) (F : List DFact) (chain : List Nat) (l : List Oper) (D : List DOp) : Bool := rcheck R 0 l && (dcheck R F chain 0 l D && (ndB chain && chain.all (fun x => Nat.blt x l.length)))
theorem fO_ok {dl : List (Nat × List Nat)} {D0 : List DOp} {E : List (Nat × AV)} : ∀ (D : List DOp) (k i : Nat) (F : List DFact),fO dl k i D = some F → (∀ j,D[j]? = D0[i + j]?) → BornOk D0 F ∧ BaseOk E F
  | [],k,i,F,h,_ => by
    cases h
    exact ⟨trivial,trivial⟩
  | ⟨ns,lo,hi,none,T⟩ :: xs,k,i,F,h,hD => fO_ok xs k (i+1) F h fun j => by
    have := hD (j+1)
    rw [List.getElem?_cons_succ] at this
    rw [this,Nat.add_assoc,Nat.add_comm 1 j]
  | ⟨ns,lo,hi,some (d,v),T⟩ :: xs,k,i,F,h,hD => by
    rw [fO,Option.bind_eq_some_iff] at h
    obtain ⟨r,hr,h⟩ := h
    cases h
    obtain ⟨q1,q2⟩ := fO_ok (E := E) xs (k+1) (i+1) r hr fun j => by
      have := hD (j+1)
      rw [List.getElem?_cons_succ] at this
      rw [this,Nat.add_assoc,Nat.add_comm 1 j]
    exact ⟨⟨⟨_,(hD 0).symm,rfl⟩,q1⟩,⟨trivial,q2⟩⟩
theorem fF_ok {dl : List (Nat × List Nat)} {D : List DOp} {E : List (Nat × AV)} : ∀ (fs : List (Nat × AV)) (k : Nat) (F : List DFact),fF dl D k fs = some F → lkE fs E = smE fs → BornOk D F ∧ BaseOk E F
  | [],k,F,h,_ => fO_ok D k 0 F h fun j => by rw [Nat.zero_add]
  | (d,v) :: fs,k,F,h,hb => by
    rw [fF,Option.bind_eq_some_iff] at h
    obtain ⟨r,hr,h⟩ := h
    cases h
    simp only [lkE,smE,List.cons.injEq] at hb
    obtain ⟨q1,q2⟩ := fF_ok fs (k+1) r hr hb.2
    exact ⟨⟨trivial,q1⟩,⟨hb.1,q2⟩⟩
theorem kF_ok {F : List DFact} {n : Nat} {E : List (Nat × AV)} (h : DInv F (fun i => decide (i < n)) E) : ∀ {ks : List Nat} {e : List (Nat × AV)},kF F n ks = some e → SubE e E
  | [],e,hk => by
    cases hk
    exact .n _
  | k :: ks,e,hk => by
    unfold kF at hk
    split at hk
    · rename_i d v hf
      obtain ⟨r,hr,hk⟩ := Option.bind_eq_some_iff.1 hk
      cases hk
      exact .c (h.at hf rfl rfl) (kF_ok h hr)
    · rename_i d v j hf
      cases hj : decide (j < n) with
      | false => rw [hj] at hk; cases hk
      | true =>
        rw [hj] at hk
        obtain ⟨r,hr,hk⟩ := Option.bind_eq_some_iff.1 hk
        cases hk
        exact .c (h.at hf hj rfl) (kF_ok h hr)
    · cases hk
theorem AWP.dw {C : Ctx} {Q : Exit → St → Prop} {s : St} {e : List (Nat × AV)} {h' : List (Nat × Blk)} {id : Nat} {l : List Oper} {F : List DFact} (hm : C.P.follows .mixedOrders = true) (fs : List (Nat × AV)) (dl : List (Nat × List Nat)) (D : List DOp) (chain : List Nat) (Hs : List (List (Nat × Blk))) (R : List (List Nat)) (ks : List Nat)
    (hF : fF dl D 0 fs = some F) (hb : lkE fs s.env = smE fs) (hc : dwB (R.map uI) F chain l D = true) (h0 : Hs[0]? = some s.heap)
    (hs : DSteps C l.toArray F chain Hs 0 l D) (he : kF F l.length ks = some e) (hH : Hs[chain.length]? = some h') (hq : Q .normal ⟨e,h'⟩) : AWP C (.region id l.toArray true) Q s := by
  unfold dwB at hc
  simp only [Bool.and_eq_true] at hc
  obtain ⟨z1,z2,z3,z4⟩ := hc
  obtain ⟨q1,q2⟩ := fF_ok fs 0 F hF hb
  exact AWP.draw (s' := ⟨e,h'⟩) hm F D chain Hs (R.map uI) z1 z2 q1 q2 h0 (ndB_ok z3) (allLt z4) hs (fun E hE => kF_ok hE he) hH hq
section
variable {C : Ctx} {A : Array Oper} {F : List DFact} {chain : List Nat} {Hs : List (List (Nat × Blk))} {i d j dj lo hi : Nat} {os : List Oper} {xs : List DOp} {op : Op} {ty : TypeId} {s : String} {e : Array Edge} {ns : List Nat} {v : AV} {b : Bool} {H : List (Nat × Blk)}
theorem DSteps.p (hc : chain.findIdx? (Nat.beq i) = none) (h : ∀ E,Need (needOf F ns) E → ∀ H,AStep C ⟨some d,op,ty,s,e,none⟩ ⟨E,H⟩ (St.put ⟨E,H⟩ d v)) (t : DSteps C A F chain Hs (i + 1) os xs) : DSteps C A F chain Hs i (⟨some d,op,ty,s,e,none⟩ :: os) (⟨ns,lo,hi,some (d,v),[]⟩ :: xs) :=
  .pure hc (fun H => .put fun E q => h E q H) t
theorem DSteps.r (hc : chain.findIdx? (Nat.beq i) = none) (hH : (Hs.drop lo).take (hi + 1 - lo) = [H]) (h : ∀ E,Need (needOf F ns) E → AStep C ⟨some d,op,ty,s,e,none⟩ ⟨E,H⟩ (St.put ⟨E,H⟩ d v)) (t : DSteps C A F chain Hs (i + 1) os xs) : DSteps C A F chain Hs i (⟨some d,op,ty,s,e,none⟩ :: os) (⟨ns,lo,hi,some (d,v),[]⟩ :: xs) :=
  .read hc (by rw [hH]; exact .c (.put h) .n) t
theorem DSteps.gf (hc : chain.findIdx? (Nat.beq i) = none) (hj : (A[j]?).bind (·.dst) = some dj) (hdj : Nat.blt dj C.N = true) (hd : Nat.blt d C.N = true) (hb : (needOf F ns)[0]? = some (dj,.sc (.bool b)))
    (h : (!b) = true → ∀ E,Need (needOf F ns) E → ∀ H,AStep C ⟨some d,op,ty,s,e,some (j,false)⟩ ⟨E,H⟩ (St.put ⟨E,H⟩ d v)) (t : DSteps C A F chain Hs (i + 1) os xs) : DSteps C A F chain Hs i (⟨some d,op,ty,s,e,some (j,false)⟩ :: os) (⟨ns,lo,hi,some (d,.gd (!b) v),[]⟩ :: xs) :=
  .pure hc (fun H => .gput (want := false) hj (lt1 hdj) (lt1 hd) (fun E q => q.at hb) fun hg E q => h hg E q H) t
theorem DSteps.gt (hc : chain.findIdx? (Nat.beq i) = none) (hj : (A[j]?).bind (·.dst) = some dj) (hdj : Nat.blt dj C.N = true) (hd : Nat.blt d C.N = true) (hb : (needOf F ns)[0]? = some (dj,.sc (.bool b)))
    (h : b = true → ∀ E,Need (needOf F ns) E → ∀ H,AStep C ⟨some d,op,ty,s,e,some (j,true)⟩ ⟨E,H⟩ (St.put ⟨E,H⟩ d v)) (t : DSteps C A F chain Hs (i + 1) os xs) : DSteps C A F chain Hs i (⟨some d,op,ty,s,e,some (j,true)⟩ :: os) (⟨ns,lo,hi,some (d,.gd b v),[]⟩ :: xs) :=
  .pure hc (fun H => .gput (want := true) hj (lt1 hdj) (lt1 hd) (fun E q => q.at hb) fun hg E q => h hg E q H) t
theorem DSteps.rf (hc : chain.findIdx? (Nat.beq i) = none) (hH : (Hs.drop lo).take (hi + 1 - lo) = [H]) (hj : (A[j]?).bind (·.dst) = some dj) (hdj : Nat.blt dj C.N = true) (hd : Nat.blt d C.N = true) (hb : (needOf F ns)[0]? = some (dj,.sc (.bool b)))
    (h : (!b) = true → ∀ E,Need (needOf F ns) E → AStep C ⟨some d,op,ty,s,e,some (j,false)⟩ ⟨E,H⟩ (St.put ⟨E,H⟩ d v)) (t : DSteps C A F chain Hs (i + 1) os xs) : DSteps C A F chain Hs i (⟨some d,op,ty,s,e,some (j,false)⟩ :: os) (⟨ns,lo,hi,some (d,.gd (!b) v),[]⟩ :: xs) :=
  .read hc (by rw [hH]; exact .c (.gput (want := false) hj (lt1 hdj) (lt1 hd) (fun E q => q.at hb) h) .n) t
theorem DSteps.rt (hc : chain.findIdx? (Nat.beq i) = none) (hH : (Hs.drop lo).take (hi + 1 - lo) = [H]) (hj : (A[j]?).bind (·.dst) = some dj) (hdj : Nat.blt dj C.N = true) (hd : Nat.blt d C.N = true) (hb : (needOf F ns)[0]? = some (dj,.sc (.bool b)))
    (h : b = true → ∀ E,Need (needOf F ns) E → AStep C ⟨some d,op,ty,s,e,some (j,true)⟩ ⟨E,H⟩ (St.put ⟨E,H⟩ d v)) (t : DSteps C A F chain Hs (i + 1) os xs) : DSteps C A F chain Hs i (⟨some d,op,ty,s,e,some (j,true)⟩ :: os) (⟨ns,lo,hi,some (d,.gd b v),[]⟩ :: xs) :=
  .read hc (by rw [hH]; exact .c (.gput (want := true) hj (lt1 hdj) (lt1 hd) (fun E q => q.at hb) h) .n) t
end
theorem AWP.sr {C : Ctx} {Q : Exit → St → Prop} {s s' : St} {id : Nat} {l : List Oper} {y : Code} (h : ARun C l.toArray l s s') (k : AWP C y Q s') : AWP C (.seq (.region id l.toArray false) y) Q s := AWP.seq (AWP.rg h k)
theorem AWP.sv {C : Ctx} {Q : Exit → St → Prop} {s s' : St} {id : Nat} {l : List Oper} {y : Code} (h : ARun C l.toArray l s s') (S : St) (h1 : lkE S.env s'.env = smE S.env) (h2 : lkH S.heap s'.heap = smH S.heap) (k : AWP C y Q S) : AWP C (.seq (.region id l.toArray false) y) Q s := AWP.sr h (AWP.vc (VC.sub (SubE.of h1) (SubH.of h2)) k)
theorem zero3 : zeroT Try.prog 3 [.int .i64 0] := zeroT.mk (by kernel_rfl)
theorem el3 : elT Try.prog 3 1 8 := elT.mk (by kernel_rfl)
theorem zero32 : zeroT Try.prog 32 [.slice none 0 0,.slice none 0 0,.int .i64 0,.int .i64 0] := zeroT.mk (by kernel_rfl)
theorem sz22 : szOf Try.prog 22 1 := szOf.mk (by kernel_rfl)
theorem sz3 : szOf Try.prog 3 1 := szOf.mk (by kernel_rfl)
theorem offs32 : offsOf Try.prog 32 [(0,1),(1,1),(2,1),(3,1)] := ⟨_,Try.underlying32,rfl,.cons sz22 (.cons sz22 (.cons sz3 (.cons sz3 (.nil))))⟩
theorem sz32 : szOf Try.prog 32 4 := szOf.mk (by kernel_rfl)
theorem agg32 : aggT Try.prog 32 4 := ⟨sz32,_,Try.underlying32,trivial⟩
structure R23 where
  Lq : (List Int)
  Dq : (List Int)
  Sq : Int
  Kq : Int
  deriving DecidableEq,Inhabited
def e23 (y : R23) : List AV := [.rd false y.Lq.length (y.Lq.flatMap (encI .i64)),.rd false y.Dq.length (y.Dq.flatMap (encI .i64)),.sc (.int .i64 y.Sq),.sc (.int .i64 y.Kq)]
def encL3 (y : List Int) : List AV := [.rd false y.length (y.flatMap (encI .i64))]
theorem encL3_len (y : List Int) : (encL3 y).length = 1 := rfl
theorem encL3_one (y : List Int) : ∀ c,c ∈ encL3 y → c.one = true := by simp [encL3,AV.one]
theorem encL3_still (y : List Int) : ∀ c,c ∈ encL3 y → c.still = true := by simp [encL3,AV.still]
theorem fld32_0 : fldOf Try.prog 32 0 0 := ⟨_,_,Try.underlying32,rfl,rfl,0,sz22⟩
theorem one22 : oneT Try.prog 22 := ⟨_,Try.underlying22,trivial⟩
theorem fld32_1 : fldOf Try.prog 32 1 1 := ⟨_,_,Try.underlying32,rfl,rfl,0,sz22⟩
theorem fld32_2 : fldOf Try.prog 32 2 2 := ⟨_,_,Try.underlying32,rfl,rfl,0,sz3⟩
theorem one3 : oneT Try.prog 3 := ⟨_,Try.underlying3,trivial⟩
theorem fld32_3 : fldOf Try.prog 32 3 3 := ⟨_,_,Try.underlying32,rfl,rfl,0,sz3⟩
theorem zero28 : zeroT Try.prog 28 [.slice none 0 0] := zeroT.mk (by kernel_rfl)
theorem zero29 : zeroT Try.prog 29 [.int .i64 0] := zeroT.mk (by kernel_rfl)
theorem zero22 : zeroT Try.prog 22 [.slice none 0 0] := zeroT.mk (by kernel_rfl)
theorem mixed : Try.prog.follows .mixedOrders = true := by kernel_rfl
theorem zero101 : zeroT Try.prog 101 [.nilFunc] := zeroT.mk (by kernel_rfl)
theorem sz101 : szOf Try.prog 101 1 := szOf.mk (by kernel_rfl)
theorem one101 : oneT Try.prog 101 := ⟨_,Try.underlying101,trivial⟩
theorem one96 : oneT Try.prog 96 := ⟨_,Try.underlying96,trivial⟩
theorem one28 : oneT Try.prog 28 := ⟨_,Try.underlying28,trivial⟩
theorem sz28 : szOf Try.prog 28 1 := szOf.mk (by kernel_rfl)
theorem sz29 : szOf Try.prog 29 1 := szOf.mk (by kernel_rfl)
theorem el22 : elT Try.prog 22 1 24 := elT.mk (by kernel_rfl)
theorem one29 : oneT Try.prog 29 := ⟨_,Try.underlying29,trivial⟩
theorem fld24_0 : fldOf Try.prog 24 0 0 := ⟨_,_,Try.underlying24,rfl,rfl,0,sz22⟩
theorem fld24_1 : fldOf Try.prog 24 1 1 := ⟨_,_,Try.underlying24,rfl,rfl,0,sz22⟩
theorem sz24 : szOf Try.prog 24 4 := szOf.mk (by kernel_rfl)
theorem agg24 : aggT Try.prog 24 4 := ⟨sz24,_,Try.underlying24,trivial⟩
theorem fld24_2 : fldOf Try.prog 24 2 2 := ⟨_,_,Try.underlying24,rfl,rfl,0,sz3⟩
theorem fld24_3 : fldOf Try.prog 24 3 3 := ⟨_,_,Try.underlying24,rfl,rfl,0,sz3⟩
structure R56 where
  Pq : (List Int)
  Cq : Int
  deriving DecidableEq,Inhabited
def e56 (y : R56) : List AV := [.rd false y.Pq.length (y.Pq.flatMap (encI .i64)),.sc (.int .i64 y.Cq)]
theorem encR56_len (y : R56) : (e56 y).length = 2 := rfl
theorem encR56_one (y : R56) : ∀ c,c ∈ e56 y → c.one = true := by simp [e56,AV.one]
theorem encR56_still (y : R56) : ∀ c,c ∈ e56 y → c.still = true := by simp [e56,AV.still]
theorem sz78 : szOf Try.prog 78 2 := szOf.mk (by kernel_rfl)
theorem fld78_0 : fldOf Try.prog 78 0 0 := ⟨_,_,Try.underlying78,rfl,rfl,0,sz22⟩
theorem fld78_1 : fldOf Try.prog 78 1 1 := ⟨_,_,Try.underlying78,rfl,rfl,0,sz3⟩
theorem agg78 : aggT Try.prog 78 2 := ⟨sz78,_,Try.underlying78,trivial⟩
theorem zero78 : zeroT Try.prog 78 [.slice none 0 0,.int .i64 0] := zeroT.mk (by kernel_rfl)
theorem zero57 : zeroT Try.prog 57 [.slice none 0 0,.int .i64 0] := zeroT.mk (by kernel_rfl)
theorem el57 : elT Try.prog 57 2 32 := elT.mk (by kernel_rfl)
theorem sz57 : szOf Try.prog 57 2 := szOf.mk (by kernel_rfl)
theorem agg57 : aggT Try.prog 57 2 := ⟨sz57,_,Try.underlying57,trivial⟩
theorem fld57_0 : fldOf Try.prog 57 0 0 := ⟨_,_,Try.underlying57,rfl,rfl,0,sz22⟩
theorem fld57_1 : fldOf Try.prog 57 1 1 := ⟨_,_,Try.underlying57,rfl,rfl,0,sz3⟩
theorem offs57 : offsOf Try.prog 57 [(0,1),(1,1)] := ⟨_,Try.underlying57,rfl,.cons sz22 (.cons sz3 (.nil))⟩
theorem el78 : elT Try.prog 78 2 32 := elT.mk (by kernel_rfl)
theorem zero53 : zeroT Try.prog 53 [.slice none 0 0] := zeroT.mk (by kernel_rfl)
theorem one53 : oneT Try.prog 53 := ⟨_,Try.underlying53,trivial⟩
theorem sz53 : szOf Try.prog 53 1 := szOf.mk (by kernel_rfl)
theorem offs78 : offsOf Try.prog 78 [(0,1),(1,1)] := ⟨_,Try.underlying78,rfl,.cons sz22 (.cons sz3 (.nil))⟩
def m21_L1 (n : Nat) (a0 : R23) (k_18 : Unit → Option Bool) (nx_10 : Int → Option Bool) (x_9 : Int) : Option Bool :=
  (if (decide (x_9 < (a0.Lq.length : Int))) = true then ((getIdx a0.Lq x_9).bind fun y_11 => ((gdO ((!((decide (y_11 < (1 : Int))) || (decide (a0.Sq < y_11)))) && (decide ((0 : Int) < x_9))) (getIdx a0.Lq (IntKind.wrap .i64 (x_9 - (1 : Int)))) default).bind fun y_12 => ((gdO (!(((decide (y_11 < (1 : Int))) || (decide (a0.Sq < y_11))) || ((decide ((0 : Int) < x_9)) && (decide (y_12 ≤ y_11))))) (getIdx a0.Dq x_9) default).bind fun y_13 => ((gdO (!((((decide (y_11 < (1 : Int))) || (decide (a0.Sq < y_11))) || ((decide ((0 : Int) < x_9)) && (decide (y_12 ≤ y_11)))) || (decide (y_13 < (0 : Int))))) (getIdx a0.Dq x_9) default).bind fun y_14 => (letM ((((((decide (y_11 < (1 : Int))) || (decide (a0.Sq < y_11))) || ((decide ((0 : Int) < x_9)) && (decide (y_12 ≤ y_11)))) || (decide (y_13 < (0 : Int)))) || (decide ((1000 : Int) < y_14)))) fun t89_15 => (if t89_15 = true then (some false) else (letM ((IntKind.wrap .i64 (x_9 + (1 : Int)))) fun t47_16 => (nx_10 t47_16)))))))) else (k_18 ()))
def m21 (n : Nat) (a0 : R23) : Option Bool :=
  (letM ((((((((decide ((a0.Lq.length : Int) < (1 : Int))) || (decide ((20 : Int) < (a0.Lq.length : Int)))) || (!decide ((a0.Dq.length : Int) = (a0.Lq.length : Int)))) || (decide (a0.Sq < (1 : Int)))) || (decide ((2000 : Int) < a0.Sq))) || (decide (a0.Kq < (0 : Int)))) || (decide ((100 : Int) < a0.Kq)))) fun t43_1 => (if t43_1 = true then (some false) else (jn (fun p_17 : Unit => (some true)) fun k_18 => (loopM (m21_L1 n a0 k_18) n (0 : Int)))))
def m47 (n : Nat) (a0 : R23) (a1 : Int) : Option Int :=
  ((getIdx a0.Lq a1).bind fun y_1 => (letM ((IntKind.wrap .i64 (y_1 + a0.Kq))) fun t4_2 => (some t4_2)))
def m63_L1 (n : Nat) (a0 : R23) (k_26 : (List Int) → Option (List Int)) (nx_18 : (Int × (List Int)) → Option (List Int)) (x_17 : (Int × (List Int))) : Option (List Int) :=
  (if (decide ((0 : Int) ≤ x_17.1)) = true then ((getIdx x_17.2 (IntKind.wrap .i64 (x_17.1 + (1 : Int)))).bind fun y_19 => ((getIdx a0.Dq x_17.1).bind fun y_20 => ((m47 n (R23.mk a0.Lq a0.Dq a0.Sq a0.Kq) x_17.1).bind fun y_21 => ((getIdx x_17.2 x_17.1).bind fun y_22 => ((setIdx x_17.2 x_17.1 (IntKind.wrap .i64 (y_19 + (IntKind.wrap .i64 (y_20 * y_21))))).bind fun l4_23 => (letM ((IntKind.wrap .i64 (x_17.1 - (1 : Int)))) fun t7_24 => (nx_18 (t7_24,l4_23)))))))) else (k_26 x_17.2))
def m63 (n : Nat) (a0 : R23) (a1 : Int) : Option (List Int) :=
  ((mk (0 : Int) (IntKind.wrap .i64 ((a0.Lq.length : Int) + (1 : Int))) (IntKind.wrap .i64 ((a0.Lq.length : Int) + (1 : Int)))).bind fun l4_1 => (letM ((IntKind.wrap .i64 ((a0.Lq.length : Int) - (1 : Int)))) fun t7_2 => (jn (fun p_25 : (List Int) => (some p_25)) fun k_26 => (loopM (m63_L1 n a0 k_26) n (t7_2,l4_1)))))
def m74 (n : Nat) (a0 : Int) : Option Bool :=
  (some (decide ((0 : Int) < a0)))
def m71_L1 (n : Nat) (a0 : (List Int)) (k_11 : Unit → Option Int) (nx_6 : Int → Option Int) (x_5 : Int) : Option Int :=
  (if (decide (x_5 < (a0.length : Int))) = true then ((getIdx a0 x_5).bind fun y_7 => ((m74 n y_7).bind fun y_8 => (if y_8 = true then (some x_5) else (letM ((IntKind.wrap .i64 (x_5 + (1 : Int)))) fun t8_9 => (nx_6 t8_9))))) else (k_11 ()))
def m71 (n : Nat) (a0 : (List Int)) : Option Int :=
  (jn (fun p_10 : Unit => (some (-1 : Int))) fun k_11 => (loopM (m71_L1 n a0 k_11) n (0 : Int)))
def m61 (n : Nat) (a0 : (List Int)) : Option Bool :=
  ((m71 n a0).bind fun y_1 => (some (decide ((0 : Int) ≤ y_1))))
def m53 (n : Nat) (a0 : (List Int)) : Option (List Int) :=
  ((apd ([] : List Int) a0).bind fun l1_2 => (some l1_2))
def m73_L1 (n : Nat) (a0 : Int) (a1 : Int) (a2 : Int) (a3_b0_b : (List Int)) (a4_b0 : Int) (a7_b0 : Int) (a8_b0 : (List Int)) (a8_b1 : (List Int)) (a8_b2 : Int) (a8_b3 : Int) (rc_0 : Int → Int → Int → (List Int) → Int → (List Int) → Int → (List Int) → (List Int) → Int → Int → Option (List (List Int) × (List Int))) (p_7 : Int) (k_66 : (List Int) → Option (List (List Int) × (List Int))) (nx_48 : (Int × (List Int)) → Option (List (List Int) × (List Int))) (x_47 : (Int × (List Int))) : Option (List (List Int) × (List Int)) :=
  (if (decide (p_7 ≤ x_47.1)) = true then ((getIdx a8_b1 a0).bind fun y_49 => (jn (fun p_52 : Int => ((getIdx x_47.2 a0).bind fun y_54 => ((setIdx x_47.2 a0 x_47.1).bind fun l5_55 => ((m47 n (R23.mk a8_b0 a8_b1 a8_b2 a8_b3) a0).bind fun y_56 => (yldsM (rc_0 (IntKind.wrap .i64 (a0 + (1 : Int))) (IntKind.wrap .i64 (a1 - (IntKind.wrap .i64 (x_47.1 * y_56)))) p_52 a3_b0_b a4_b0 l5_55 a7_b0 a8_b0 a8_b1 a8_b2 a8_b3) (fun x_58 => (letM ((IntKind.wrap .i64 (x_47.1 - (1 : Int)))) fun t16_64 => (nx_48 (t16_64,x_58))))))))) fun k_53 => (if (decide (x_47.1 < y_49)) = true then ((m47 n (R23.mk a8_b0 a8_b1 a8_b2 a8_b3) a0).bind fun y_50 => (letM ((if y_50 < a2 then y_50 else a2)) fun t17_51 => (k_53 t17_51))) else (k_53 a2)))) else (k_66 x_47.2))
def m73B (n : Nat) (rc_0 : Int → Int → Int → (List Int) → Int → (List Int) → Int → (List Int) → (List Int) → Int → Int → Option (List (List Int) × (List Int))) (a0 : Int) (a1 : Int) (a2 : Int) (a3_b0_b : (List Int)) (a4_b0 : Int) (a5_b0_b : (List Int)) (a7_b0 : Int) (a8_b0 : (List Int)) (a8_b1 : (List Int)) (a8_b2 : Int) (a8_b3 : Int) : Option (List (List Int) × (List Int)) :=
  ((getIdx a3_b0_b a0).bind fun y_1 => (if (decide (a2 ≤ (IntKind.wrap .i64 (a1 - y_1)))) = true then (some ([],a5_b0_b)) else (if (decide (a0 = a4_b0)) = true then ((m61 n a5_b0_b).bind fun y_2 => ((gdO (!(!y_2)) (m53 n a5_b0_b) default).bind fun y_3 => (yldC (!y_2) y_3 (some ([],a5_b0_b))))) else (jn (fun p_7 : Int => ((getIdx a8_b1 a0).bind fun y_9 => ((m47 n (R23.mk a8_b0 a8_b1 a8_b2 a8_b3) a0).bind fun y_10 => (asrt (y_10 ≠ 0) (letM ((if (IntKind.wrap .i64 (a1.tdiv y_10)) < y_9 then (IntKind.wrap .i64 (a1.tdiv y_10)) else y_9)) fun t16_12 => (jn (fun p_65 : (List Int) => ((getIdx p_65 a0).bind fun y_67 => ((setIdx p_65 a0 (0 : Int)).bind fun l5_68 => (some ([],l5_68))))) fun k_66 => (loopM (m73_L1 n a0 a1 a2 a3_b0_b a4_b0 a7_b0 a8_b0 a8_b1 a8_b2 a8_b3 rc_0 p_7 k_66) n (t16_12,a5_b0_b)))))))) fun k_8 => (if (decide (a0 = a7_b0)) = true then (k_8 (1 : Int)) else (k_8 (0 : Int)))))))
def m73F (n : Nat) : Nat → Int → Int → Int → (List Int) → Int → (List Int) → Int → (List Int) → (List Int) → Int → Int → Option (List (List Int) × (List Int))
  | 0 => fun _ _ _ _ _ _ _ _ _ _ _ => none
  | f + 1 => m73B n (m73F n f)
def m73 (n : Nat) (a0 : Int) (a1 : Int) (a2 : Int) (a3_b0_b : (List Int)) (a4_b0 : Int) (a5_b0_b : (List Int)) (a7_b0 : Int) (a8_b0 : (List Int)) (a8_b1 : (List Int)) (a8_b2 : Int) (a8_b3 : Int) : Option (List (List Int) × (List Int)) := m73F n n a0 a1 a2 a3_b0_b a4_b0 a5_b0_b a7_b0 a8_b0 a8_b1 a8_b2 a8_b3
def m72Y (n : Nat) (a1_b0 : Int) (a2_b0_b : (List Int)) (a3_b0 : Int) (a4_b0 : (List Int)) (a4_b1 : (List Int)) (a4_b2 : Int) (a4_b3 : Int) : Option (List (List Int) × Unit) :=
  ((mk (0 : Int) a1_b0 a1_b0).bind fun l7_1 => (yldsM (m73 n (0 : Int) (IntKind.wrap .i64 (a4_b2 + a4_b3)) (IntKind.wrap .i64 ((IntKind.wrap .i64 (a4_b2 + a4_b3)) + (1 : Int))) a2_b0_b a1_b0 l7_1 a3_b0 a4_b0 a4_b1 a4_b2 a4_b3) (fun x_3 => (some ([],())))))
def m72 (n : Nat) (a1_b0 : Int) (a2_b0_b : (List Int)) (a3_b0 : Int) (a4_b0 : (List Int)) (a4_b1 : (List Int)) (a4_b2 : Int) (a4_b3 : Int) : Option (List (List Int)) := (m72Y n a1_b0 a2_b0_b a3_b0 a4_b0 a4_b1 a4_b2 a4_b3).map fun q => q.1
def m45_R1 (n : Nat) (k_16 : (Int × (List (List Int))) → Option ((List (List Int)) × Int)) (nx_14 : (Int × (List (List Int))) → Option ((List (List Int)) × Int)) (e_8 : (List Int)) (x_13 : (Int × (List (List Int)))) : Option ((List (List Int)) × Int) :=
  (if (decide ((x_13.2.length : Int) = (300 : Int))) = true then (k_16 ((9 : Int),x_13.2)) else ((apd x_13.2 ([e_8] : List (List Int))).bind fun l10_17 => (nx_14 (x_13.1,l10_17))))
def m45 (n : Nat) (a0 : R23) (a1 : Int) : Option ((List (List Int)) × Int) :=
  ((m63 n (R23.mk a0.Lq a0.Dq a0.Sq a0.Kq) a1).bind fun y_1 => (letM (((R23.mk a0.Lq a0.Dq a0.Sq a0.Kq).Lq.length : Int)) fun c_2 => (letM ((R23.mk a0.Lq a0.Dq a0.Sq a0.Kq).Lq) fun c_3 => (letM ((R23.mk a0.Lq a0.Dq a0.Sq a0.Kq).Dq) fun c_4 => (letM ((R23.mk a0.Lq a0.Dq a0.Sq a0.Kq).Sq) fun c_5 => (letM ((R23.mk a0.Lq a0.Dq a0.Sq a0.Kq).Kq) fun c_6 => ((m72 n c_2 y_1 a1 c_3 c_4 c_5 c_6).bind fun y_7 => (jn (fun p_15 : Int × (List (List Int)) => (some (([] : List (List Int)),p_15.1))) fun k_16 => (rangeL (m45_R1 n k_16) y_7 (fun p_18 : Int × (List (List Int)) => (some (p_18.2,(0 : Int)))) ((0 : Int),([] : List (List Int))))))))))))
def m13 (n : Nat) (a0 : R23) : Option ((List (List Int)) × Int) :=
  ((m21 n (R23.mk a0.Lq a0.Dq a0.Sq a0.Kq)).bind fun y_1 => (if (!y_1) = true then (some (([] : List (List Int)),(1 : Int))) else ((m45 n (R23.mk a0.Lq a0.Dq a0.Sq a0.Kq) (-1 : Int)).bind fun y_2 => (some (y_2.1,y_2.2)))))
def m22_L1 (n : Nat) (a0 : R23) (k_14 : Int → Option (Int × Int)) (nx_8 : (Int × Int) → Option (Int × Int)) (x_7 : (Int × Int)) : Option (Int × Int) :=
  (if (decide (x_7.2 < (a0.Dq.length : Int))) = true then ((getIdx a0.Dq x_7.2).bind fun y_9 => ((m47 n (R23.mk a0.Lq a0.Dq a0.Sq a0.Kq) x_7.2).bind fun y_10 => (letM ((IntKind.wrap .i64 (x_7.1 + (IntKind.wrap .i64 (y_9 * y_10))))) fun t4_11 => (letM ((IntKind.wrap .i64 (x_7.2 + (1 : Int)))) fun t14_12 => (nx_8 (t4_11,t14_12)))))) else (k_14 x_7.1))
def m22 (n : Nat) (a0 : R23) : Option (Int × Int) :=
  ((m21 n (R23.mk a0.Lq a0.Dq a0.Sq a0.Kq)).bind fun y_1 => (if (!y_1) = true then (some ((0 : Int),(1 : Int))) else (jn (fun p_13 : Int => (letM ((IntKind.wrap .i64 (a0.Sq + a0.Kq))) fun t7_15 => (asrt (t7_15 ≠ 0) (letM ((IntKind.wrap .i64 ((IntKind.wrap .i64 ((IntKind.wrap .i64 (p_13 + t7_15)) - (1 : Int))).tdiv t7_15))) fun t2_17 => (some (t2_17,(0 : Int))))))) fun k_14 => (loopM (m22_L1 n a0 k_14) n ((0 : Int),(0 : Int))))))
def m34_L1 (n : Nat) (a0 : (List Int)) (a1 : (List Int)) (k_11 : Unit → Option Bool) (nx_6 : Int → Option Bool) (x_5 : Int) : Option Bool :=
  (if (decide (x_5 < (a0.length : Int))) = true then ((getIdx a0 x_5).bind fun y_7 => ((getIdx a1 x_5).bind fun y_8 => (if (!decide (y_7 = y_8)) = true then (some false) else (letM ((IntKind.wrap .i64 (x_5 + (1 : Int)))) fun t5_9 => (nx_6 t5_9))))) else (k_11 ()))
def m34 (n : Nat) (a0 : (List Int)) (a1 : (List Int)) : Option Bool :=
  (if (!decide ((a0.length : Int) = (a1.length : Int))) = true then (some false) else (jn (fun p_10 : Unit => (some true)) fun k_11 => (loopM (m34_L1 n a0 a1 k_11) n (0 : Int))))
def m20_L1 (n : Nat) (a0 : (List (List Int))) (a1 : (List (List Int))) (k_13 : Unit → Option Bool) (nx_7 : Int → Option Bool) (x_6 : Int) : Option Bool :=
  (if (decide (x_6 < (a0.length : Int))) = true then ((getIdx a0 x_6).bind fun y_8 => ((getIdx a1 x_6).bind fun y_9 => ((m34 n y_8 y_9).bind fun y_10 => (if (!y_10) = true then (some false) else (letM ((IntKind.wrap .i64 (x_6 + (1 : Int)))) fun t5_11 => (nx_7 t5_11)))))) else (k_13 ()))
def m20 (n : Nat) (a0 : (List (List Int))) (a1 : (List (List Int))) : Option Bool :=
  (if (!decide ((a0.length : Int) = (a1.length : Int))) = true then (some false) else (jn (fun p_12 : Unit => (some true)) fun k_13 => (loopM (m20_L1 n a0 a1 k_13) n (0 : Int))))
def m10 (n : Nat) : Option Bool :=
  ((m13 n (R23.mk ([(5 : Int),(3 : Int)] : List Int) ([(2 : Int),(3 : Int)] : List Int) (11 : Int) (1 : Int))).bind fun y_1 => ((m22 n (R23.mk ([(5 : Int),(3 : Int)] : List Int) ([(2 : Int),(3 : Int)] : List Int) (11 : Int) (1 : Int))).bind fun y_2 => ((gdO (((decide (y_1.2 = (0 : Int))) && (decide (y_2.2 = (0 : Int)))) && (decide (y_2.1 = (2 : Int)))) (m20 n y_1.1 ([([(2 : Int),(0 : Int)] : List Int),([(1 : Int),(1 : Int)] : List Int),([(0 : Int),(3 : Int)] : List Int)] : List (List Int))) default).bind fun y_3 => ((gdO ((((decide (y_1.2 = (0 : Int))) && (decide (y_2.2 = (0 : Int)))) && (decide (y_2.1 = (2 : Int)))) && y_3) (m21 n (R23.mk ([(5 : Int),(3 : Int)] : List Int) ([(2 : Int),(3 : Int)] : List Int) (11 : Int) (1 : Int))) default).bind fun y_4 => (some (((((decide (y_1.2 = (0 : Int))) && (decide (y_2.2 = (0 : Int)))) && (decide (y_2.1 = (2 : Int)))) && y_3) && y_4))))))
def m48_L1 (n : Nat) (a0 : R23) (a1 : (List Int)) (k_26 : Int → Option (Int × Bool)) (nx_18 : (Int × Int) → Option (Int × Bool)) (x_17 : (Int × Int)) : Option (Int × Bool) :=
  (if (decide (x_17.2 < (a1.length : Int))) = true then ((getIdx a1 x_17.2).bind fun y_19 => ((gdO (!(decide (y_19 < (0 : Int)))) (m47 n (R23.mk a0.Lq a0.Dq a0.Sq a0.Kq) x_17.2) default).bind fun y_20 => (asrtG (!(decide (y_19 < (0 : Int)))) (y_20 ≠ 0) (if ((decide (y_19 < (0 : Int))) || (decide ((IntKind.wrap .i64 (x_17.1.tdiv y_20)) < y_19))) = true then (some ((0 : Int),false)) else ((m47 n (R23.mk a0.Lq a0.Dq a0.Sq a0.Kq) x_17.2).bind fun y_22 => (letM ((IntKind.wrap .i64 (x_17.1 - (IntKind.wrap .i64 (y_19 * y_22))))) fun t6_23 => (letM ((IntKind.wrap .i64 (x_17.2 + (1 : Int)))) fun t27_24 => (nx_18 (t6_23,t27_24))))))))) else (k_26 x_17.1))
def m48 (n : Nat) (a0 : R23) (a1 : (List Int)) : Option (Int × Bool) :=
  ((m21 n (R23.mk a0.Lq a0.Dq a0.Sq a0.Kq)).bind fun y_1 => (if ((!y_1) || (!decide ((a1.length : Int) = (a0.Lq.length : Int)))) = true then (some ((0 : Int),false)) else (letM ((IntKind.wrap .i64 (a0.Sq + a0.Kq))) fun t6_2 => (jn (fun p_25 : Int => (some (p_25,true))) fun k_26 => (loopM (m48_L1 n a0 a1 k_26) n (t6_2,(0 : Int)))))))
def m12_L1 (n : Nat) (a0 : R23) (k_22 : Unit → Option Bool) (nx_12 : Int → Option Bool) (x_11 : Int) : Option Bool :=
  (if (decide (x_11 < (a0.Lq.length : Int))) = true then ((getIdx a0.Lq x_11).bind fun y_13 => ((gdO (!(decide (y_13 < (1 : Int)))) (getIdx a0.Lq x_11) default).bind fun y_14 => ((gdO ((!((decide (y_13 < (1 : Int))) || (decide (a0.Sq < y_14)))) && (decide ((0 : Int) < x_11))) (getIdx a0.Lq x_11) default).bind fun y_15 => ((gdO ((!((decide (y_13 < (1 : Int))) || (decide (a0.Sq < y_14)))) && (decide ((0 : Int) < x_11))) (getIdx a0.Lq (IntKind.wrap .i64 (x_11 - (1 : Int)))) default).bind fun y_16 => ((gdO (!(((decide (y_13 < (1 : Int))) || (decide (a0.Sq < y_14))) || ((decide ((0 : Int) < x_11)) && (decide (y_16 ≤ y_15))))) (getIdx a0.Dq x_11) default).bind fun y_17 => ((gdO (!((((decide (y_13 < (1 : Int))) || (decide (a0.Sq < y_14))) || ((decide ((0 : Int) < x_11)) && (decide (y_16 ≤ y_15)))) || (decide (y_17 < (0 : Int))))) (getIdx a0.Dq x_11) default).bind fun y_18 => (letM ((((((decide (y_13 < (1 : Int))) || (decide (a0.Sq < y_14))) || ((decide ((0 : Int) < x_11)) && (decide (y_16 ≤ y_15)))) || (decide (y_17 < (0 : Int)))) || (decide ((1000 : Int) < y_18)))) fun t95_19 => (if t95_19 = true then (some false) else (letM ((IntKind.wrap .i64 (x_11 + (1 : Int)))) fun t4_20 => (nx_12 t4_20)))))))))) else (k_22 ()))
def m12 (n : Nat) (a0 : R23) : Option Bool :=
  (letM ((((((((decide ((a0.Lq.length : Int) < (1 : Int))) || (decide ((20 : Int) < (a0.Lq.length : Int)))) || (!decide ((a0.Dq.length : Int) = (a0.Lq.length : Int)))) || (decide (a0.Sq < (1 : Int)))) || (decide ((2000 : Int) < a0.Sq))) || (decide (a0.Kq < (0 : Int)))) || (decide ((100 : Int) < a0.Kq)))) fun t40_1 => (if t40_1 = true then (some false) else (jn (fun p_21 : Unit => (some true)) fun k_22 => (loopM (m12_L1 n a0 k_22) n (0 : Int)))))
def m49_L1 (n : Nat) (a0 : R23) (a1 : (List Int)) (k_13 : Int → Option Int) (nx_7 : (Int × Int) → Option Int) (x_6 : (Int × Int)) : Option Int :=
  (if (decide (x_6.2 < (a0.Lq.length : Int))) = true then ((getIdx a1 x_6.2).bind fun y_8 => ((getIdx a0.Lq x_6.2).bind fun y_9 => (letM ((IntKind.wrap .i64 (x_6.1 + (IntKind.wrap .i64 (y_8 * (IntKind.wrap .i64 (y_9 + a0.Kq))))))) fun t5_10 => (letM ((IntKind.wrap .i64 (x_6.2 + (1 : Int)))) fun t6_11 => (nx_7 (t5_10,t6_11)))))) else (k_13 x_6.1))
def m49 (n : Nat) (a0 : R23) (a1 : (List Int)) : Option Int :=
  (jn (fun p_12 : Int => (some p_12)) fun k_13 => (loopM (m49_L1 n a0 a1 k_13) n ((0 : Int),(0 : Int))))
def m27_L1 (n : Nat) (a1 : (List Int)) (k_12 : Unit → Option Bool) (nx_7 : Int → Option Bool) (x_6 : Int) : Option Bool :=
  (if (decide (x_6 < (a1.length : Int))) = true then ((getIdx a1 x_6).bind fun y_8 => ((gdO (!(decide (y_8 < (0 : Int)))) (getIdx a1 x_6) default).bind fun y_9 => (if ((decide (y_8 < (0 : Int))) || (decide ((2000 : Int) < y_9))) = true then (some false) else (letM ((IntKind.wrap .i64 (x_6 + (1 : Int)))) fun t5_10 => (nx_7 t5_10))))) else (k_12 ()))
def m27 (n : Nat) (a0 : R23) (a1 : (List Int)) : Option Bool :=
  ((m12 n (R23.mk a0.Lq a0.Dq a0.Sq a0.Kq)).bind fun y_1 => (if ((!y_1) || (!decide ((a1.length : Int) = (a0.Lq.length : Int)))) = true then (some false) else (jn (fun p_11 : Unit => ((m49 n (R23.mk a0.Lq a0.Dq a0.Sq a0.Kq) a1).bind fun y_13 => (some (decide (y_13 ≤ (IntKind.wrap .i64 (a0.Sq + a0.Kq))))))) fun k_12 => (loopM (m27_L1 n a1 k_12) n (0 : Int)))))
def m26 (n : Nat) (a0 : R23) (a1 : (List Int)) : Option Bool :=
  ((m48 n (R23.mk a0.Lq a0.Dq a0.Sq a0.Kq) a1).bind fun y_1 => (some y_1.2))
def m14_L1 (n : Nat) (a0 : R23) (a1 : (List Int)) (k_12 : Unit → Option Bool) (nx_7 : Int → Option Bool) (x_6 : Int) : Option Bool :=
  (if (decide (x_6 < (a1.length : Int))) = true then ((getIdx a1 x_6).bind fun y_8 => ((getIdx a0.Dq x_6).bind fun y_9 => (if (decide (y_9 < y_8)) = true then (some false) else (letM ((IntKind.wrap .i64 (x_6 + (1 : Int)))) fun t5_10 => (nx_7 t5_10))))) else (k_12 ()))
def m14 (n : Nat) (a0 : R23) (a1 : (List Int)) : Option Bool :=
  ((m27 n (R23.mk a0.Lq a0.Dq a0.Sq a0.Kq) a1).bind fun y_1 => (if (!y_1) = true then (some false) else (jn (fun p_11 : Unit => (some true)) fun k_12 => (loopM (m14_L1 n a0 a1 k_12) n (0 : Int)))))
def m11_L1 (n : Nat) (a0 : R23) (k_10 : Unit → Option Bool) (nx_6 : Int → Option Bool) (x_5 : Int) : Option Bool :=
  (if (decide (x_5 < (a0.Dq.length : Int))) = true then ((getIdx a0.Dq x_5).bind fun y_7 => (if (decide ((30 : Int) < y_7)) = true then (some false) else (letM ((IntKind.wrap .i64 (x_5 + (1 : Int)))) fun t3_8 => (nx_6 t3_8)))) else (k_10 ()))
def m11 (n : Nat) (a0 : R23) : Option Bool :=
  (if ((decide ((25 : Int) < (a0.Lq.length : Int))) || (decide ((25 : Int) < (a0.Dq.length : Int)))) = true then (some false) else ((m12 n (R23.mk a0.Lq a0.Dq a0.Sq a0.Kq)).bind fun y_1 => (if (!y_1) = true then (some true) else (jn (fun p_9 : Unit => ((gdO (decide ((a0.Lq.length : Int) ≤ (6 : Int))) (getIdx a0.Lq (IntKind.wrap .i64 ((a0.Lq.length : Int) - (1 : Int)))) default).bind fun y_11 => (some ((decide ((a0.Lq.length : Int) ≤ (6 : Int))) && (decide (a0.Sq ≤ (IntKind.wrap .i64 ((12 : Int) * y_11)))))))) fun k_10 => (loopM (m11_L1 n a0 k_10) n (0 : Int))))))
def m15_L1 (n : Nat) (a0 : (List Int)) (a1 : (List Int)) (k_15 : Unit → Option Bool) (nx_8 : Int → Option Bool) (x_7 : Int) : Option Bool :=
  (if ((decide (x_7 < (a0.length : Int))) && (decide (x_7 < (a1.length : Int)))) = true then ((getIdx a0 x_7).bind fun y_9 => ((getIdx a1 x_7).bind fun y_10 => (if (!decide (y_9 = y_10)) = true then ((getIdx a0 x_7).bind fun y_11 => ((getIdx a1 x_7).bind fun y_12 => (some (decide (y_12 < y_11))))) else (letM ((IntKind.wrap .i64 (x_7 + (1 : Int)))) fun t5_13 => (nx_8 t5_13))))) else (k_15 ()))
def m15 (n : Nat) (a0 : (List Int)) (a1 : (List Int)) : Option Bool :=
  (jn (fun p_14 : Unit => (some (decide ((a1.length : Int) < (a0.length : Int))))) fun k_15 => (loopM (m15_L1 n a0 a1 k_15) n (0 : Int)))
def m16_L1 (n : Nat) (a0 : (List Int)) (a1 : (List Int)) (k_11 : Unit → Option Bool) (nx_6 : Int → Option Bool) (x_5 : Int) : Option Bool :=
  (if (decide (x_5 < (a1.length : Int))) = true then ((getIdx a0 x_5).bind fun y_7 => ((getIdx a1 x_5).bind fun y_8 => (if (decide (y_7 < y_8)) = true then (some false) else (letM ((IntKind.wrap .i64 (x_5 + (1 : Int)))) fun t8_9 => (nx_6 t8_9))))) else (k_11 ()))
def m16 (n : Nat) (a0 : (List Int)) (a1 : (List Int)) : Option Bool :=
  (jn (fun p_10 : Unit => (some true)) fun k_11 => (loopM (m16_L1 n a0 a1 k_11) n (0 : Int)))
def m3_L6 (n : Nat) (y_5 : ((List (List Int)) × Int)) (p_51 : Bool × (List Int)) (k_124 : Bool → Option Bool) (nx_119 : (Bool × Int) → Option Bool) (x_118 : (Bool × Int)) : Option Bool :=
  (if (decide (x_118.2 < (y_5.1.length : Int))) = true then ((gdO (!x_118.1) (getIdx y_5.1 x_118.2) default).bind fun y_120 => ((gdO (!x_118.1) (m16 n y_120 p_51.2) default).bind fun y_121 => (letM ((IntKind.wrap .i64 (x_118.2 + (1 : Int)))) fun t165_122 => (nx_119 ((x_118.1 || y_121),t165_122))))) else (k_124 x_118.1))
def m3_L5 (n : Nat) (y_5 : ((List (List Int)) × Int)) (x_89 : Bool × Int) (y_91 : (List Int)) (k_106 : Unit → Option Bool) (nx_101 : Int → Option Bool) (x_100 : Int) : Option Bool :=
  (if (decide (x_100 < (y_5.1.length : Int))) = true then ((getIdx y_5.1 x_100).bind fun y_102 => ((gdO (!decide (x_89.2 = x_100)) (m16 n y_91 y_102) default).bind fun y_103 => (if ((!decide (x_89.2 = x_100)) && y_103) = true then (some false) else (letM ((IntKind.wrap .i64 (x_100 + (1 : Int)))) fun t141_104 => (nx_101 t141_104))))) else (k_106 ()))
def m3_L4 (n : Nat) (a0 : R23) (y_5 : ((List (List Int)) × Int)) (p_51 : Bool × (List Int)) (k_109 : Bool → Option Bool) (nx_90 : (Bool × Int) → Option Bool) (x_89 : (Bool × Int)) : Option Bool :=
  (if (decide (x_89.2 < (y_5.1.length : Int))) = true then ((getIdx y_5.1 x_89.2).bind fun y_91 => ((m14 n (R23.mk a0.Lq a0.Dq a0.Sq a0.Kq) y_91).bind fun y_92 => ((gdO ((!(!y_92)) && (decide ((0 : Int) < x_89.2))) (getIdx y_5.1 (IntKind.wrap .i64 (x_89.2 - (1 : Int)))) default).bind fun y_93 => ((gdO ((!(!y_92)) && (decide ((0 : Int) < x_89.2))) (m15 n y_93 y_91) default).bind fun y_94 => (if ((!y_92) || ((decide ((0 : Int) < x_89.2)) && (!y_94))) = true then (some false) else ((gdO (!x_89.1) (m16 n y_91 p_51.2) default).bind fun y_95 => (jn (fun p_105 : Unit => (if ((decide ((60 : Int) < (y_5.1.length : Int))) && (decide ((20 : Int) < x_89.2))) = true then (k_109 (x_89.1 || y_95)) else (letM ((IntKind.wrap .i64 (x_89.2 + (1 : Int)))) fun t110_107 => (nx_90 ((x_89.1 || y_95),t110_107))))) fun k_106 => (loopM (m3_L5 n y_5 x_89 y_91 k_106) n (0 : Int))))))))) else (k_109 x_89.1))
def m3_L1 (n : Nat) (a0 : R23) (a1 : (List UInt8)) (l2_6 : (List Int)) (k_52 : (Bool × (List Int)) → Option Bool) (nx_37 : (Int × Bool × Int × (List Int)) → Option Bool) (x_36 : (Int × Bool × Int × (List Int))) : Option Bool :=
  (if (decide (x_36.2.2.1 < (l2_6.length : Int))) = true then (jn (fun p_44 : (List Int) => ((getIdx p_44 x_36.2.2.1).bind fun y_46 => ((getIdx a0.Lq x_36.2.2.1).bind fun y_47 => (letM ((IntKind.wrap .i64 (x_36.1 - (IntKind.wrap .i64 (y_46 * (IntKind.wrap .i64 (y_47 + a0.Kq))))))) fun t8_48 => ((gdO (!x_36.2.1) (getIdx p_44 x_36.2.2.1) default).bind fun y_49 => (letM ((IntKind.wrap .i64 (x_36.2.2.1 + (1 : Int)))) fun t51_50 => (nx_37 (t8_48,(x_36.2.1 || (decide ((0 : Int) < y_49))),t51_50,p_44)))))))) fun k_45 => (if (decide (x_36.2.2.1 < (a1.length : Int))) = true then ((getIdx a1 x_36.2.2.1).bind fun y_38 => ((getIdx a0.Dq x_36.2.2.1).bind fun y_39 => ((getIdx a0.Lq x_36.2.2.1).bind fun y_40 => (asrt ((IntKind.wrap .i64 (y_40 + a0.Kq)) ≠ 0) ((getIdx x_36.2.2.2 x_36.2.2.1).bind fun y_42 => ((setIdx x_36.2.2.2 x_36.2.2.1 (if (IntKind.wrap .i64 (x_36.1.tdiv (IntKind.wrap .i64 (y_40 + a0.Kq)))) < (if y_39 < (IntKind.wrap .i64 (y_38.toNat : Int)) then y_39 else (IntKind.wrap .i64 (y_38.toNat : Int))) then (IntKind.wrap .i64 (x_36.1.tdiv (IntKind.wrap .i64 (y_40 + a0.Kq)))) else (if y_39 < (IntKind.wrap .i64 (y_38.toNat : Int)) then y_39 else (IntKind.wrap .i64 (y_38.toNat : Int))))).bind fun l2_43 => (k_45 l2_43))))))) else (k_45 x_36.2.2.2))) else (k_52 (x_36.2.1,x_36.2.2.2)))
def m3 (n : Nat) (a0 : R23) (a1 : (List UInt8)) : Option Bool :=
  ((m10 n).bind fun y_1 => ((gdO (!(!y_1)) (m11 n (R23.mk a0.Lq a0.Dq a0.Sq a0.Kq)) default).bind fun y_2 => ((gdO (!((!y_1) || (!y_2))) (m12 n (R23.mk a0.Lq a0.Dq a0.Sq a0.Kq)) default).bind fun y_3 => (if (((!y_1) || (!y_2)) || (!y_3)) = true then ((m10 n).bind fun y_4 => (some y_4)) else ((m13 n (R23.mk a0.Lq a0.Dq a0.Sq a0.Kq)).bind fun y_5 => (if (decide (y_5.2 = (9 : Int))) = true then (some (decide ((y_5.1.length : Int) = (0 : Int)))) else ((mk (0 : Int) (a0.Lq.length : Int) (a0.Lq.length : Int)).bind fun l2_6 => (letM ((IntKind.wrap .i64 (a0.Sq + a0.Kq))) fun t8_7 => (jn (fun p_51 : Bool × (List Int) => (jn (fun p_108 : Bool => (jn (fun p_123 : Bool => (some ((decide (y_5.2 = (0 : Int))) && p_123))) fun k_124 => (loopM (m3_L6 n y_5 p_51 k_124) n (p_108,(0 : Int))))) fun k_109 => (loopM (m3_L4 n a0 y_5 p_51 k_109) n ((!p_51.1),(0 : Int))))) fun k_52 => (loopM (m3_L1 n a0 a1 l2_6 k_52) n (t8_7,false,(0 : Int),l2_6)))))))))))
def m29_L1 (n : Nat) (a0 : (List R56)) (k_11 : Unit → Option Bool) (nx_6 : Int → Option Bool) (x_5 : Int) : Option Bool :=
  (if (decide (x_5 < (a0.length : Int))) = true then ((getIdx a0 x_5).bind fun y_7 => ((gdO (!(decide ((25 : Int) < (y_7.Pq.length : Int)))) (getIdx a0 x_5) default).bind fun y_8 => (if ((decide ((25 : Int) < (y_7.Pq.length : Int))) || (decide ((40 : Int) < y_8.Cq))) = true then (some false) else (letM ((IntKind.wrap .i64 (x_5 + (1 : Int)))) fun t3_9 => (nx_6 t3_9))))) else (k_11 ()))
def m29 (n : Nat) (a0 : (List R56)) : Option Bool :=
  (jn (fun p_10 : Unit => (some (decide ((a0.length : Int) ≤ (12 : Int))))) fun k_11 => (loopM (m29_L1 n a0 k_11) n (0 : Int)))
def m30_L1 (n : Nat) (a0 : R23) (a1 : (List R56)) (k_16 : Unit → Option Bool) (nx_9 : Int → Option Bool) (x_8 : Int) : Option Bool :=
  (if (decide (x_8 < (a1.length : Int))) = true then ((getIdx a1 x_8).bind fun y_10 => ((m27 n (R23.mk a0.Lq a0.Dq a0.Sq a0.Kq) y_10.Pq).bind fun y_11 => ((gdO (!(!y_11)) (getIdx a1 x_8) default).bind fun y_12 => ((gdO (!((!y_11) || (decide (y_12.Cq < (1 : Int))))) (getIdx a1 x_8) default).bind fun y_13 => (if (((!y_11) || (decide (y_12.Cq < (1 : Int)))) || (decide ((1000 : Int) < y_13.Cq))) = true then (some false) else (letM ((IntKind.wrap .i64 (x_8 + (1 : Int)))) fun t5_14 => (nx_9 t5_14))))))) else (k_16 ()))
def m30 (n : Nat) (a0 : R23) (a1 : (List R56)) : Option Bool :=
  ((m12 n (R23.mk a0.Lq a0.Dq a0.Sq a0.Kq)).bind fun y_1 => (if ((!y_1) || (decide ((1000 : Int) < (a1.length : Int)))) = true then (some false) else (jn (fun p_15 : Unit => (some true)) fun k_16 => (loopM (m30_L1 n a0 a1 k_16) n (0 : Int)))))
def m32_L1 (n : Nat) (a0 : (List R56)) (k_15 : (List R56) → Option (List R56)) (nx_10 : (Int × (List R56)) → Option (List R56)) (x_9 : (Int × (List R56))) : Option (List R56) :=
  (if (decide (x_9.1 < (a0.length : Int))) = true then ((getIdx a0 x_9.1).bind fun y_11 => ((apd x_9.2 ([(R56.mk y_11.Pq y_11.Cq)] : List R56)).bind fun l1_12 => (letM ((IntKind.wrap .i64 (x_9.1 + (1 : Int)))) fun t8_13 => (nx_10 (t8_13,l1_12))))) else (k_15 x_9.2))
def m32 (n : Nat) (a0 : (List R56)) : Option (List R56) :=
  (jn (fun p_14 : (List R56) => (some p_14)) fun k_15 => (loopM (m32_L1 n a0 k_15) n ((0 : Int),([] : List R56))))
def m52_L1 (n : Nat) (a0 : (List Int)) (a1 : (List Int)) (k_11 : Unit → Option Bool) (nx_6 : Int → Option Bool) (x_5 : Int) : Option Bool :=
  (if (decide (x_5 < (a0.length : Int))) = true then ((getIdx a0 x_5).bind fun y_7 => ((getIdx a1 x_5).bind fun y_8 => (if (!decide (y_7 = y_8)) = true then (some false) else (letM ((IntKind.wrap .i64 (x_5 + (1 : Int)))) fun t13_9 => (nx_6 t13_9))))) else (k_11 ()))
def m52 (n : Nat) (a0 : (List Int)) (a1 : (List Int)) : Option Bool :=
  (if (!decide ((a0.length : Int) = (a1.length : Int))) = true then (some false) else (jn (fun p_10 : Unit => (some true)) fun k_11 => (loopM (m52_L1 n a0 a1 k_11) n (0 : Int))))
def m51 (n : Nat) (a0 : R56) (a1_b0 : (List Int)) (a1_b1 : Int) : Option Bool :=
  ((m52 n a1_b0 a0.Pq).bind fun y_1 => (some y_1))
def m50_L1 (n : Nat) (a0 : (List R56)) (a1_0_b0 : (List Int)) (a1_0_b1 : Int) (k_11 : Unit → Option Int) (nx_6 : Int → Option Int) (x_5 : Int) : Option Int :=
  (if (decide (x_5 < (a0.length : Int))) = true then ((getIdx a0 x_5).bind fun y_7 => ((m51 n (R56.mk y_7.Pq y_7.Cq) a1_0_b0 a1_0_b1).bind fun y_8 => (if y_8 = true then (some x_5) else (letM ((IntKind.wrap .i64 (x_5 + (1 : Int)))) fun t8_9 => (nx_6 t8_9))))) else (k_11 ()))
def m50 (n : Nat) (a0 : (List R56)) (a1_0_b0 : (List Int)) (a1_0_b1 : Int) : Option Int :=
  (jn (fun p_10 : Unit => (some (-1 : Int))) fun k_11 => (loopM (m50_L1 n a0 a1_0_b0 a1_0_b1 k_11) n (0 : Int)))
def m55 (n : Nat) (a0 : R56) : Option Bool :=
  (some (decide (a0.Cq < (1 : Int))))
def m50x1_L1 (n : Nat) (a0 : (List R56)) (k_11 : Unit → Option Int) (nx_6 : Int → Option Int) (x_5 : Int) : Option Int :=
  (if (decide (x_5 < (a0.length : Int))) = true then ((getIdx a0 x_5).bind fun y_7 => ((m55 n (R56.mk y_7.Pq y_7.Cq)).bind fun y_8 => (if y_8 = true then (some x_5) else (letM ((IntKind.wrap .i64 (x_5 + (1 : Int)))) fun t8_9 => (nx_6 t8_9))))) else (k_11 ()))
def m50x1 (n : Nat) (a0 : (List R56)) : Option Int :=
  (jn (fun p_10 : Unit => (some (-1 : Int))) fun k_11 => (loopM (m50x1_L1 n a0 k_11) n (0 : Int)))
def m54o_L1 (n : Nat) (k_32 : (Int × (List R56)) → Option (List R56)) (nx_22 : (Int × Int × (List R56)) → Option (List R56)) (x_21 : (Int × Int × (List R56))) : Option (List R56) :=
  (if (decide (x_21.2.1 < (x_21.2.2.length : Int))) = true then ((getIdx x_21.2.2 x_21.2.1).bind fun y_23 => ((m55 n (R56.mk y_23.Pq y_23.Cq)).bind fun y_24 => (jn (fun p_28 : Int × (List R56) => (letM ((IntKind.wrap .i64 (x_21.2.1 + (1 : Int)))) fun t6_30 => (nx_22 (p_28.1,t6_30,p_28.2)))) fun k_29 => (if (!y_24) = true then ((getIdx x_21.2.2 x_21.1).bind fun y_25 => ((setIdx x_21.2.2 x_21.1 (R56.mk y_23.Pq y_23.Cq)).bind fun l1_26 => (letM ((IntKind.wrap .i64 (x_21.1 + (1 : Int)))) fun t5_27 => (k_29 (t5_27,l1_26))))) else (k_29 (x_21.1,x_21.2.2)))))) else (k_32 (x_21.1,x_21.2.2)))
def m54o (n : Nat) (a0_b : (List R56)) : Option (List R56) :=
  ((m50x1 n a0_b).bind fun y_1 => (if (decide (y_1 = (-1 : Int))) = true then (some a0_b) else (letM ((IntKind.wrap .i64 (y_1 + (1 : Int)))) fun t6_2 => (jn (fun p_31 : Int × (List R56) => ((slc p_31.2 (0 : Int) p_31.1).bind fun l1_33 => (some l1_33))) fun k_32 => (loopM (m54o_L1 n k_32) n (y_1,t6_2,a0_b))))))
def m77 (n : Nat) (a0 : Int) : Option Bool :=
  (some (!decide (a0 = a0)))
def m66 (n : Nat) (a0 : Int) (a1 : Int) : Option Int :=
  ((m77 n a0).bind fun y_1 => ((m77 n a1).bind fun y_2 => (if y_1 = true then (if y_2 = true then (some (0 : Int)) else (some (-1 : Int))) else (if y_2 = true then (some (1 : Int)) else (if (decide (a0 < a1)) = true then (some (-1 : Int)) else (if (decide (a1 < a0)) = true then (some (1 : Int)) else (some (0 : Int))))))))
def m58_L1 (n : Nat) (a0 : (List Int)) (a1 : (List Int)) (k_13 : Unit → Option Int) (nx_7 : Int → Option Int) (x_6 : Int) : Option Int :=
  (if (decide (x_6 < (a0.length : Int))) = true then ((getIdx a0 x_6).bind fun y_8 => (if (decide ((a1.length : Int) ≤ x_6)) = true then (some (1 : Int)) else ((getIdx a1 x_6).bind fun y_9 => ((m66 n y_8 y_9).bind fun y_10 => (if (!decide (y_10 = (0 : Int))) = true then (some y_10) else (letM ((IntKind.wrap .i64 (x_6 + (1 : Int)))) fun t11_11 => (nx_7 t11_11))))))) else (k_13 ()))
def m58 (n : Nat) (a0 : (List Int)) (a1 : (List Int)) : Option Int :=
  (jn (fun p_12 : Unit => (if (decide ((a0.length : Int) < (a1.length : Int))) = true then (some (-1 : Int)) else (some (0 : Int)))) fun k_13 => (loopM (m58_L1 n a0 a1 k_13) n (0 : Int)))
def m57 (n : Nat) (a0 : R56) (a1 : R56) : Option Int :=
  ((m58 n a1.Pq a0.Pq).bind fun y_1 => (some y_1))
def m75_L4 (n : Nat) (a1 : Int) (k_115 : (List R56) → Option (List R56)) (nx_103 : (Int × (List R56)) → Option (List R56)) (x_102 : (Int × (List R56))) : Option (List R56) :=
  ((gdO (decide (a1 < x_102.1)) (getIdx x_102.2 x_102.1) default).bind fun y_104 => ((gdO (decide (a1 < x_102.1)) (getIdx x_102.2 (IntKind.wrap .i64 (x_102.1 - (1 : Int)))) default).bind fun y_105 => ((gdO (decide (a1 < x_102.1)) (m57 n (R56.mk y_104.Pq y_104.Cq) (R56.mk y_105.Pq y_105.Cq)) default).bind fun y_106 => (if ((decide (a1 < x_102.1)) && (decide (y_106 < (0 : Int)))) = true then ((getIdx x_102.2 (IntKind.wrap .i64 (x_102.1 - (1 : Int)))).bind fun y_107 => ((getIdx x_102.2 x_102.1).bind fun y_108 => ((getIdx x_102.2 x_102.1).bind fun y_109 => ((setIdx x_102.2 x_102.1 (R56.mk y_107.Pq y_107.Cq)).bind fun l1_110 => ((getIdx l1_110 (IntKind.wrap .i64 (x_102.1 - (1 : Int)))).bind fun y_111 => ((setIdx l1_110 (IntKind.wrap .i64 (x_102.1 - (1 : Int))) (R56.mk y_108.Pq y_108.Cq)).bind fun l1_112 => (letM ((IntKind.wrap .i64 (x_102.1 - (1 : Int)))) fun t9_113 => (nx_103 (t9_113,l1_112))))))))) else (k_115 x_102.2)))))
def m75_L3 (n : Nat) (a1 : Int) (a2 : Int) (k_118 : (List R56) → Option (List R56)) (nx_79 : (Int × (List R56)) → Option (List R56)) (x_78 : (Int × (List R56))) : Option (List R56) :=
  (if (decide (x_78.1 < a2)) = true then (jn (fun p_114 : (List R56) => (letM ((IntKind.wrap .i64 (x_78.1 + (1 : Int)))) fun t8_116 => (nx_79 (t8_116,p_114)))) fun k_115 => (loopM (m75_L4 n a1 k_115) n (x_78.1,x_78.2))) else (k_118 x_78.2))
def m75 (n : Nat) (a0_b : (List R56)) (a1 : Int) (a2 : Int) : Option (List R56) :=
  (letM ((IntKind.wrap .i64 (a1 + (1 : Int)))) fun t8_1 => (jn (fun p_117 : (List R56) => (some p_117)) fun k_118 => (loopM (m75_L3 n a1 a2 k_118) n (t8_1,a0_b))))
def m80_L1 (n : Nat) (a1 : Int) (a2 : Int) (a3 : Int) (k_27 : (List R56) → Option (List R56)) (nx_18 : (Int × (List R56)) → Option (List R56)) (x_17 : (Int × (List R56))) : Option (List R56) :=
  (if (decide (x_17.1 < a3)) = true then ((getIdx x_17.2 (IntKind.wrap .i64 (a2 + x_17.1))).bind fun y_19 => ((getIdx x_17.2 (IntKind.wrap .i64 (a1 + x_17.1))).bind fun y_20 => ((getIdx x_17.2 (IntKind.wrap .i64 (a1 + x_17.1))).bind fun y_21 => ((setIdx x_17.2 (IntKind.wrap .i64 (a1 + x_17.1)) (R56.mk y_19.Pq y_19.Cq)).bind fun l1_22 => ((getIdx l1_22 (IntKind.wrap .i64 (a2 + x_17.1))).bind fun y_23 => ((setIdx l1_22 (IntKind.wrap .i64 (a2 + x_17.1)) (R56.mk y_20.Pq y_20.Cq)).bind fun l1_24 => (letM ((IntKind.wrap .i64 (x_17.1 + (1 : Int)))) fun t10_25 => (nx_18 (t10_25,l1_24))))))))) else (k_27 x_17.2))
def m80 (n : Nat) (a0_b : (List R56)) (a1 : Int) (a2 : Int) (a3 : Int) : Option (List R56) :=
  (jn (fun p_26 : (List R56) => (some p_26)) fun k_27 => (loopM (m80_L1 n a1 a2 a3 k_27) n ((0 : Int),a0_b)))
def m79_L1 (n : Nat) (a2 : Int) (k_32 : (Int × (List R56)) → Option (List R56)) (nx_22 : (Int × Int × (List R56)) → Option (List R56)) (x_21 : (Int × Int × (List R56))) : Option (List R56) :=
  (if (!decide (x_21.1 = x_21.2.1)) = true then (jn (fun p_29 : Int × Int × (List R56) => (nx_22 (p_29.1,p_29.2.1,p_29.2.2))) fun k_30 => (if (decide (x_21.2.1 < x_21.1)) = true then ((m80 n x_21.2.2 (IntKind.wrap .i64 (a2 - x_21.1)) a2 x_21.2.1).bind fun y_23 => (asrt (x_21.2.2.length = y_23.length) (letM ((IntKind.wrap .i64 (x_21.1 - x_21.2.1))) fun t10_25 => (k_30 (t10_25,x_21.2.1,y_23))))) else ((m80 n x_21.2.2 (IntKind.wrap .i64 (a2 - x_21.1)) (IntKind.wrap .i64 ((IntKind.wrap .i64 (a2 + x_21.2.1)) - x_21.1)) x_21.1).bind fun y_26 => (asrt (x_21.2.2.length = y_26.length) (letM ((IntKind.wrap .i64 (x_21.2.1 - x_21.1))) fun t11_28 => (k_30 (x_21.1,t11_28,y_26))))))) else (k_32 (x_21.1,x_21.2.2)))
def m79 (n : Nat) (a0_b : (List R56)) (a1 : Int) (a2 : Int) (a3 : Int) : Option (List R56) :=
  (letM ((IntKind.wrap .i64 (a2 - a1))) fun t10_1 => (letM ((IntKind.wrap .i64 (a3 - a2))) fun t11_2 => (jn (fun p_31 : Int × (List R56) => ((m80 n p_31.2 (IntKind.wrap .i64 (a2 - p_31.1)) a2 p_31.1).bind fun y_33 => (asrt (p_31.2.length = y_33.length) (some y_33)))) fun k_32 => (loopM (m79_L1 n a2 k_32) n (t10_1,t11_2,a0_b)))))
def m76_L2 (n : Nat) (p_26 : Int) (k_54 : (List R56) → Option (List R56)) (nx_45 : (Int × (List R56)) → Option (List R56)) (x_44 : (Int × (List R56))) : Option (List R56) :=
  (if (decide (x_44.1 < (IntKind.wrap .i64 (p_26 - (1 : Int))))) = true then ((getIdx x_44.2 (IntKind.wrap .i64 (x_44.1 + (1 : Int)))).bind fun y_46 => ((getIdx x_44.2 x_44.1).bind fun y_47 => ((getIdx x_44.2 x_44.1).bind fun y_48 => ((setIdx x_44.2 x_44.1 (R56.mk y_46.Pq y_46.Cq)).bind fun l1_49 => ((getIdx l1_49 (IntKind.wrap .i64 (x_44.1 + (1 : Int)))).bind fun y_50 => ((setIdx l1_49 (IntKind.wrap .i64 (x_44.1 + (1 : Int))) (R56.mk y_47.Pq y_47.Cq)).bind fun l1_51 => (letM ((IntKind.wrap .i64 (x_44.1 + (1 : Int)))) fun t13_52 => (nx_45 (t13_52,l1_51))))))))) else (k_54 x_44.2))
def m76_L1 (n : Nat) (a0_b : (List R56)) (a1 : Int) (k_27 : Int → Option (List R56)) (nx_18 : (Int × Int) → Option (List R56)) (x_17 : (Int × Int)) : Option (List R56) :=
  (if (decide (x_17.1 < x_17.2)) = true then (letM ((IntKind.wrap .i64 (shrI .u64 (IntKind.wrap .u64 (IntKind.wrap .i64 (x_17.1 + x_17.2))) (1 : Int)))) fun t12_19 => ((getIdx a0_b t12_19).bind fun y_20 => ((getIdx a0_b a1).bind fun y_21 => ((m57 n (R56.mk y_20.Pq y_20.Cq) (R56.mk y_21.Pq y_21.Cq)).bind fun y_22 => (jn (fun p_24 : Int × Int => (nx_18 (p_24.1,p_24.2))) fun k_25 => (if (decide (y_22 < (0 : Int))) = true then (letM ((IntKind.wrap .i64 (t12_19 + (1 : Int)))) fun t10_23 => (k_25 (t10_23,x_17.2))) else (k_25 (x_17.1,t12_19)))))))) else (k_27 x_17.1))
def m76_L4 (n : Nat) (p_80 : Int) (k_108 : (List R56) → Option (List R56)) (nx_99 : (Int × (List R56)) → Option (List R56)) (x_98 : (Int × (List R56))) : Option (List R56) :=
  (if (decide (p_80 < x_98.1)) = true then ((getIdx x_98.2 (IntKind.wrap .i64 (x_98.1 - (1 : Int)))).bind fun y_100 => ((getIdx x_98.2 x_98.1).bind fun y_101 => ((getIdx x_98.2 x_98.1).bind fun y_102 => ((setIdx x_98.2 x_98.1 (R56.mk y_100.Pq y_100.Cq)).bind fun l1_103 => ((getIdx l1_103 (IntKind.wrap .i64 (x_98.1 - (1 : Int)))).bind fun y_104 => ((setIdx l1_103 (IntKind.wrap .i64 (x_98.1 - (1 : Int))) (R56.mk y_101.Pq y_101.Cq)).bind fun l1_105 => (letM ((IntKind.wrap .i64 (x_98.1 - (1 : Int)))) fun t17_106 => (nx_99 (t17_106,l1_105))))))))) else (k_108 x_98.2))
def m76_L3 (n : Nat) (a0_b : (List R56)) (a2 : Int) (k_81 : Int → Option (List R56)) (nx_72 : (Int × Int) → Option (List R56)) (x_71 : (Int × Int)) : Option (List R56) :=
  (if (decide (x_71.1 < x_71.2)) = true then (letM ((IntKind.wrap .i64 (shrI .u64 (IntKind.wrap .u64 (IntKind.wrap .i64 (x_71.1 + x_71.2))) (1 : Int)))) fun t16_73 => ((getIdx a0_b a2).bind fun y_74 => ((getIdx a0_b t16_73).bind fun y_75 => ((m57 n (R56.mk y_74.Pq y_74.Cq) (R56.mk y_75.Pq y_75.Cq)).bind fun y_76 => (jn (fun p_78 : Int × Int => (nx_72 (p_78.1,p_78.2))) fun k_79 => (if (!(decide (y_76 < (0 : Int)))) = true then (letM ((IntKind.wrap .i64 (t16_73 + (1 : Int)))) fun t14_77 => (k_79 (t14_77,x_71.2))) else (k_79 (x_71.1,t16_73)))))))) else (k_81 x_71.1))
def m76_L5 (n : Nat) (a0_b : (List R56)) (t22_114 : Int) (k_141 : Int → Option (List R56)) (nx_132 : (Int × Int) → Option (List R56)) (x_131 : (Int × Int)) : Option (List R56) :=
  (if (decide (x_131.1 < x_131.2)) = true then (letM ((IntKind.wrap .i64 (shrI .u64 (IntKind.wrap .u64 (IntKind.wrap .i64 (x_131.1 + x_131.2))) (1 : Int)))) fun t23_133 => ((getIdx a0_b (IntKind.wrap .i64 (t22_114 - t23_133))).bind fun y_134 => ((getIdx a0_b t23_133).bind fun y_135 => ((m57 n (R56.mk y_134.Pq y_134.Cq) (R56.mk y_135.Pq y_135.Cq)).bind fun y_136 => (jn (fun p_138 : Int × Int => (nx_132 (p_138.1,p_138.2))) fun k_139 => (if (!(decide (y_136 < (0 : Int)))) = true then (letM ((IntKind.wrap .i64 (t23_133 + (1 : Int)))) fun t20_137 => (k_139 (t20_137,x_131.2))) else (k_139 (x_131.1,t23_133)))))))) else (k_141 x_131.1))
def m76B (n : Nat) (rc_0 : (List R56) → Int → Int → Int → Option (List R56)) (a0_b : (List R56)) (a1 : Int) (a2 : Int) (a3 : Int) : Option (List R56) :=
  (if (decide ((IntKind.wrap .i64 (a2 - a1)) = (1 : Int))) = true then (jn (fun p_26 : Int => (jn (fun p_53 : (List R56) => (some p_53)) fun k_54 => (loopM (m76_L2 n p_26 k_54) n (a1,a0_b)))) fun k_27 => (loopM (m76_L1 n a0_b a1 k_27) n (a2,a3))) else (if (decide ((IntKind.wrap .i64 (a3 - a2)) = (1 : Int))) = true then (jn (fun p_80 : Int => (jn (fun p_107 : (List R56) => (some p_107)) fun k_108 => (loopM (m76_L4 n p_80 k_108) n (a2,a0_b)))) fun k_81 => (loopM (m76_L3 n a0_b a2 k_81) n (a1,a2))) else (letM ((IntKind.wrap .i64 (shrI .u64 (IntKind.wrap .u64 (IntKind.wrap .i64 (a1 + a3))) (1 : Int)))) fun t18_109 => (letM ((IntKind.wrap .i64 (t18_109 + a2))) fun t19_110 => (jn (fun p_112 : Int × Int => (letM ((IntKind.wrap .i64 (t19_110 - (1 : Int)))) fun t22_114 => (jn (fun p_140 : Int => (letM ((IntKind.wrap .i64 (t19_110 - p_140))) fun t24_142 => (jn (fun p_145 : (List R56) => (jn (fun p_149 : (List R56) => (jn (fun p_153 : (List R56) => (some p_153)) fun k_154 => (if ((decide (t18_109 < t24_142)) && (decide (t24_142 < a3))) = true then ((rc_0 p_149 t18_109 t24_142 a3).bind fun y_151 => (asrt (p_149.length = y_151.length) (k_154 y_151))) else (k_154 p_149)))) fun k_150 => (if ((decide (a1 < p_140)) && (decide (p_140 < t18_109))) = true then ((rc_0 p_145 a1 p_140 t18_109).bind fun y_147 => (asrt (p_145.length = y_147.length) (k_150 y_147))) else (k_150 p_145)))) fun k_146 => (if ((decide (p_140 < a2)) && (decide (a2 < t24_142))) = true then ((m79 n a0_b p_140 a2 t24_142).bind fun y_143 => (asrt (a0_b.length = y_143.length) (k_146 y_143))) else (k_146 a0_b))))) fun k_141 => (loopM (m76_L5 n a0_b t22_114 k_141) n (p_112.1,p_112.2))))) fun k_113 => (if (decide (t18_109 < a2)) = true then (letM ((IntKind.wrap .i64 (t19_110 - a3))) fun t20_111 => (k_113 (t20_111,t18_109))) else (k_113 (a1,a2))))))))
def m76F (n : Nat) : Nat → (List R56) → Int → Int → Int → Option (List R56)
  | 0 => fun _ _ _ _ => none
  | f + 1 => m76B n (m76F n f)
def m76 (n : Nat) (a0_b : (List R56)) (a1 : Int) (a2 : Int) (a3 : Int) : Option (List R56) := m76F n n a0_b a1 a2 a3
def m65_L5 (n : Nat) (a1 : Int) (x_64 : Int × (List R56)) (k_81 : (Int × (List R56)) → Option (List R56)) (nx_76 : (Int × Int × (List R56)) → Option (List R56)) (x_75 : (Int × Int × (List R56))) : Option (List R56) :=
  (if (decide (x_75.2.1 ≤ a1)) = true then ((m76 n x_75.2.2 x_75.1 (IntKind.wrap .i64 (x_75.1 + x_64.1)) x_75.2.1).bind fun y_77 => (asrt (x_75.2.2.length = y_77.length) (letM ((IntKind.wrap .i64 (x_75.2.1 + (IntKind.wrap .i64 ((2 : Int) * x_64.1))))) fun t8_79 => (nx_76 (x_75.2.1,t8_79,y_77))))) else (k_81 (x_75.1,x_75.2.2)))
def m65_L4 (n : Nat) (a1 : Int) (k_89 : (List R56) → Option (List R56)) (nx_65 : (Int × (List R56)) → Option (List R56)) (x_64 : (Int × (List R56))) : Option (List R56) :=
  (if (decide (x_64.1 < a1)) = true then (letM ((IntKind.wrap .i64 ((2 : Int) * x_64.1))) fun t8_66 => (jn (fun p_80 : Int × (List R56) => (letM ((IntKind.wrap .i64 (p_80.1 + x_64.1))) fun t9_82 => (jn (fun p_85 : (List R56) => (letM ((IntKind.wrap .i64 (x_64.1 * (2 : Int)))) fun t6_87 => (nx_65 (t6_87,p_85)))) fun k_86 => (if (decide (t9_82 < a1)) = true then ((m76 n p_80.2 p_80.1 t9_82 a1).bind fun y_83 => (asrt (p_80.2.length = y_83.length) (k_86 y_83))) else (k_86 p_80.2))))) fun k_81 => (loopM (m65_L5 n a1 x_64 k_81) n ((0 : Int),t8_66,x_64.2)))) else (k_89 x_64.2))
def m65_L1 (n : Nat) (a1 : Int) (k_15 : (Int × (List R56)) → Option (List R56)) (nx_10 : (Int × Int × (List R56)) → Option (List R56)) (x_9 : (Int × Int × (List R56))) : Option (List R56) :=
  (if (decide (x_9.2.1 ≤ a1)) = true then ((m75 n x_9.2.2 x_9.1 x_9.2.1).bind fun y_11 => (asrt (x_9.2.2.length = y_11.length) (letM ((IntKind.wrap .i64 (x_9.2.1 + (20 : Int)))) fun t8_13 => (nx_10 (x_9.2.1,t8_13,y_11))))) else (k_15 (x_9.1,x_9.2.2)))
def m65 (n : Nat) (a0_b : (List R56)) (a1 : Int) : Option (List R56) :=
  (jn (fun p_14 : Int × (List R56) => ((m75 n p_14.2 p_14.1 a1).bind fun y_16 => (asrt (p_14.2.length = y_16.length) (jn (fun p_88 : (List R56) => (some p_88)) fun k_89 => (loopM (m65_L4 n a1 k_89) n ((20 : Int),y_16)))))) fun k_15 => (loopM (m65_L1 n a1 k_15) n ((0 : Int),(20 : Int),a0_b)))
def m56 (n : Nat) (a0_b : (List R56)) : Option (List R56) :=
  ((m65 n a0_b (a0_b.length : Int)).bind fun y_1 => (asrt (a0_b.length = y_1.length) (some y_1)))
def m31_L1 (n : Nat) (a0 : (List R56)) (k_36 : (List R56) → Option (List R56)) (nx_24 : (Int × (List R56)) → Option (List R56)) (x_23 : (Int × (List R56))) : Option (List R56) :=
  (if (decide (x_23.1 < (a0.length : Int))) = true then ((getIdx a0 x_23.1).bind fun y_25 => ((m50 n x_23.2 y_25.Pq y_25.Cq).bind fun y_26 => (jn (fun p_32 : (List R56) => (letM ((IntKind.wrap .i64 (x_23.1 + (1 : Int)))) fun t9_34 => (nx_24 (t9_34,p_32)))) fun k_33 => (if (decide ((0 : Int) ≤ y_26)) = true then ((getIdx x_23.2 y_26).bind fun y_27 => ((getIdx x_23.2 y_26).bind fun y_28 => ((setIdx x_23.2 y_26 ({ y_28 with Cq := (IntKind.wrap .i64 (y_27.Cq + y_25.Cq)) })).bind fun l1_29 => (k_33 l1_29)))) else ((m53 n y_25.Pq).bind fun y_30 => ((apd x_23.2 ([(R56.mk y_30 y_25.Cq)] : List R56)).bind fun l1_31 => (k_33 l1_31))))))) else (k_36 x_23.2))
def m31 (n : Nat) (a0 : (List R56)) : Option (List R56) :=
  (jn (fun p_35 : (List R56) => ((m54o n p_35).bind fun y_37 => ((m56 n y_37).bind fun y_38 => (asrt (y_37.length = y_38.length) (some y_38))))) fun k_36 => (loopM (m31_L1 n a0 k_36) n ((0 : Int),([] : List R56))))
def m67 (n : Nat) (a0 : R56) (a1_b0 : (List Int)) (a1_b1 : (List Int)) (a1_b2 : Int) (a1_b3 : Int) : Option Bool :=
  ((gdO (!((decide (a0.Cq < (1 : Int))) || (decide ((1000 : Int) < a0.Cq)))) (m26 n (R23.mk a1_b0 a1_b1 a1_b2 a1_b3) a0.Pq) default).bind fun y_1 => (some (((decide (a0.Cq < (1 : Int))) || (decide ((1000 : Int) < a0.Cq))) || (!y_1))))
def m50x2_L1 (n : Nat) (a0 : (List R56)) (a1_0_b0 : (List Int)) (a1_0_b1 : (List Int)) (a1_0_b2 : Int) (a1_0_b3 : Int) (k_11 : Unit → Option Int) (nx_6 : Int → Option Int) (x_5 : Int) : Option Int :=
  (if (decide (x_5 < (a0.length : Int))) = true then ((getIdx a0 x_5).bind fun y_7 => ((m67 n (R56.mk y_7.Pq y_7.Cq) a1_0_b0 a1_0_b1 a1_0_b2 a1_0_b3).bind fun y_8 => (if y_8 = true then (some x_5) else (letM ((IntKind.wrap .i64 (x_5 + (1 : Int)))) fun t8_9 => (nx_6 t8_9))))) else (k_11 ()))
def m50x2 (n : Nat) (a0 : (List R56)) (a1_0_b0 : (List Int)) (a1_0_b1 : (List Int)) (a1_0_b2 : Int) (a1_0_b3 : Int) : Option Int :=
  (jn (fun p_10 : Unit => (some (-1 : Int))) fun k_11 => (loopM (m50x2_L1 n a0 a1_0_b0 a1_0_b1 a1_0_b2 a1_0_b3 k_11) n (0 : Int)))
def m68 (n : Nat) (a0 : (List R56)) (a1_0_b0 : (List Int)) (a1_0_b1 : (List Int)) (a1_0_b2 : Int) (a1_0_b3 : Int) : Option Bool :=
  ((m50x2 n a0 a1_0_b0 a1_0_b1 a1_0_b2 a1_0_b3).bind fun y_1 => (some (decide ((0 : Int) ≤ y_1))))
def m59 (n : Nat) (a0 : R23) (a1 : (List R56)) : Option Bool :=
  ((m21 n (R23.mk a0.Lq a0.Dq a0.Sq a0.Kq)).bind fun y_1 => ((gdO (y_1 && (decide ((a1.length : Int) ≤ (1000 : Int)))) (m68 n a1 a0.Lq a0.Dq a0.Sq a0.Kq) default).bind fun y_2 => (some ((y_1 && (decide ((a1.length : Int) ≤ (1000 : Int)))) && (!y_2)))))
def m33_L4 (n : Nat) (y_53 : R56) (k_74 : (List Int) → Option ((List Int) × Int)) (nx_67 : (Int × (List Int)) → Option ((List Int) × Int)) (x_66 : (Int × (List Int))) : Option ((List Int) × Int) :=
  (if (decide (x_66.1 < (y_53.Pq.length : Int))) = true then ((getIdx y_53.Pq x_66.1).bind fun y_68 => ((getIdx x_66.2 x_66.1).bind fun y_69 => ((getIdx x_66.2 x_66.1).bind fun y_70 => ((setIdx x_66.2 x_66.1 (IntKind.wrap .i64 (y_69 + (IntKind.wrap .i64 (y_68 * y_53.Cq))))).bind fun l2_71 => (letM ((IntKind.wrap .i64 (x_66.1 + (1 : Int)))) fun t28_72 => (nx_67 (t28_72,l2_71))))))) else (k_74 x_66.2))
def m33_L3 (n : Nat) (a1 : (List R56)) (k_77 : (List Int) → Option ((List Int) × Int)) (nx_52 : (Int × (List Int)) → Option ((List Int) × Int)) (x_51 : (Int × (List Int))) : Option ((List Int) × Int) :=
  (if (decide (x_51.1 < (a1.length : Int))) = true then ((getIdx a1 x_51.1).bind fun y_53 => (jn (fun p_73 : (List Int) => (letM ((IntKind.wrap .i64 (x_51.1 + (1 : Int)))) fun t21_75 => (nx_52 (t21_75,p_73)))) fun k_74 => (loopM (m33_L4 n y_53 k_74) n ((0 : Int),x_51.2)))) else (k_77 x_51.2))
def m33 (n : Nat) (a0 : R23) (a1 : (List R56)) : Option ((List Int) × Int) :=
  ((m59 n (R23.mk a0.Lq a0.Dq a0.Sq a0.Kq) a1).bind fun y_1 => (if (!y_1) = true then (some (([] : List Int),(1 : Int))) else ((mk (0 : Int) (a0.Lq.length : Int) (a0.Lq.length : Int)).bind fun l2_2 => (jn (fun p_76 : (List Int) => (some (p_76,(0 : Int)))) fun k_77 => (loopM (m33_L3 n a1 k_77) n ((0 : Int),l2_2))))))
def m35_L1 (n : Nat) (a0 : (List R56)) (k_11 : Int → Option Int) (nx_6 : (Int × Int) → Option Int) (x_5 : (Int × Int)) : Option Int :=
  (if (decide (x_5.2 < (a0.length : Int))) = true then ((getIdx a0 x_5.2).bind fun y_7 => (letM ((IntKind.wrap .i64 (x_5.1 + y_7.Cq))) fun t3_8 => (letM ((IntKind.wrap .i64 (x_5.2 + (1 : Int)))) fun t8_9 => (nx_6 (t3_8,t8_9))))) else (k_11 x_5.1))
def m35 (n : Nat) (a0 : (List R56)) : Option Int :=
  (jn (fun p_10 : Int => (some p_10)) fun k_11 => (loopM (m35_L1 n a0 k_11) n ((0 : Int),(0 : Int))))
def m37_L1 (n : Nat) (a0 : (List R56)) (k_15 : (List R56) → Option (List R56)) (nx_10 : (Int × (List R56)) → Option (List R56)) (x_9 : (Int × (List R56))) : Option (List R56) :=
  (if (decide (x_9.1 < (a0.length : Int))) = true then ((getIdx a0 x_9.1).bind fun y_11 => ((apd x_9.2 ([(R56.mk y_11.Pq y_11.Cq)] : List R56)).bind fun l1_12 => (letM ((IntKind.wrap .i64 (x_9.1 + (1 : Int)))) fun t8_13 => (nx_10 (t8_13,l1_12))))) else (k_15 x_9.2))
def m37 (n : Nat) (a0 : (List R56)) : Option (List R56) :=
  (jn (fun p_14 : (List R56) => (some p_14)) fun k_15 => (loopM (m37_L1 n a0 k_15) n ((0 : Int),([] : List R56))))
def m36_L1 (n : Nat) (a0 : (List R56)) (a1 : (List R56)) (k_17 : Unit → Option Bool) (nx_9 : Int → Option Bool) (x_8 : Int) : Option Bool :=
  (if (decide (x_8 < (a0.length : Int))) = true then ((getIdx a0 x_8).bind fun y_10 => ((getIdx a1 x_8).bind fun y_11 => ((gdO (!(!decide (y_10.Cq = y_11.Cq))) (getIdx a0 x_8) default).bind fun y_12 => ((gdO (!(!decide (y_10.Cq = y_11.Cq))) (getIdx a1 x_8) default).bind fun y_13 => ((gdO (!(!decide (y_10.Cq = y_11.Cq))) (m34 n y_12.Pq y_13.Pq) default).bind fun y_14 => (if ((!decide (y_10.Cq = y_11.Cq)) || (!y_14)) = true then (some false) else (letM ((IntKind.wrap .i64 (x_8 + (1 : Int)))) fun t5_15 => (nx_9 t5_15)))))))) else (k_17 ()))
def m36 (n : Nat) (a0 : (List R56)) (a1 : (List R56)) : Option Bool :=
  (if (!decide ((a0.length : Int) = (a1.length : Int))) = true then (some false) else (jn (fun p_16 : Unit => (some true)) fun k_17 => (loopM (m36_L1 n a0 a1 k_17) n (0 : Int))))
def m38_L4 (n : Nat) (a1 : (List R56)) (x_61 : Int × (List Int)) (k_89 : (List Int) → Option ((List Int) × Int)) (nx_80 : (Int × (List Int)) → Option ((List Int) × Int)) (x_79 : (Int × (List Int))) : Option ((List Int) × Int) :=
  (if (decide (x_79.1 < (x_79.2.length : Int))) = true then ((getIdx x_79.2 x_79.1).bind fun y_81 => ((getIdx a1 x_61.1).bind fun y_82 => ((getIdx y_82.Pq x_79.1).bind fun y_83 => ((getIdx a1 x_61.1).bind fun y_84 => ((getIdx x_79.2 x_79.1).bind fun y_85 => ((setIdx x_79.2 x_79.1 (IntKind.wrap .i64 (y_81 + (IntKind.wrap .i64 (y_83 * y_84.Cq))))).bind fun l2_86 => (letM ((IntKind.wrap .i64 (x_79.1 + (1 : Int)))) fun t8_87 => (nx_80 (t8_87,l2_86))))))))) else (k_89 x_79.2))
def m38_L3 (n : Nat) (a1 : (List R56)) (k_92 : (List Int) → Option ((List Int) × Int)) (nx_62 : (Int × (List Int)) → Option ((List Int) × Int)) (x_61 : (Int × (List Int))) : Option ((List Int) × Int) :=
  (if (decide (x_61.1 < (a1.length : Int))) = true then (jn (fun p_88 : (List Int) => (letM ((IntKind.wrap .i64 (x_61.1 + (1 : Int)))) fun t7_90 => (nx_62 (t7_90,p_88)))) fun k_89 => (loopM (m38_L4 n a1 x_61 k_89) n ((0 : Int),x_61.2))) else (k_92 x_61.2))
def m38 (n : Nat) (a0 : R23) (a1 : (List R56)) : Option ((List Int) × Int) :=
  ((m30 n (R23.mk a0.Lq a0.Dq a0.Sq a0.Kq) a1).bind fun y_1 => (if (!y_1) = true then (some (([] : List Int),(1 : Int))) else ((mk (0 : Int) (a0.Lq.length : Int) (a0.Lq.length : Int)).bind fun l2_2 => (jn (fun p_91 : (List Int) => (some (p_91,(0 : Int)))) fun k_92 => (loopM (m38_L3 n a1 k_92) n ((0 : Int),l2_2))))))
def m33o_L4 (n : Nat) (y_53 : R56) (k_74 : (List Int) → Option ((List Int) × Int)) (nx_67 : (Int × (List Int)) → Option ((List Int) × Int)) (x_66 : (Int × (List Int))) : Option ((List Int) × Int) :=
  (if (decide (x_66.1 < (y_53.Pq.length : Int))) = true then ((getIdx y_53.Pq x_66.1).bind fun y_68 => ((getIdx x_66.2 x_66.1).bind fun y_69 => ((getIdx x_66.2 x_66.1).bind fun y_70 => ((setIdx x_66.2 x_66.1 (IntKind.wrap .i64 (y_69 + (IntKind.wrap .i64 (y_68 * y_53.Cq))))).bind fun l2_71 => (letM ((IntKind.wrap .i64 (x_66.1 + (1 : Int)))) fun t28_72 => (nx_67 (t28_72,l2_71))))))) else (k_74 x_66.2))
def m33o_L3 (n : Nat) (a1 : (List R56)) (k_77 : (List Int) → Option ((List Int) × Int)) (nx_52 : (Int × (List Int)) → Option ((List Int) × Int)) (x_51 : (Int × (List Int))) : Option ((List Int) × Int) :=
  (if (decide (x_51.1 < (a1.length : Int))) = true then ((getIdx a1 x_51.1).bind fun y_53 => (jn (fun p_73 : (List Int) => (letM ((IntKind.wrap .i64 (x_51.1 + (1 : Int)))) fun t21_75 => (nx_52 (t21_75,p_73)))) fun k_74 => (loopM (m33o_L4 n y_53 k_74) n ((0 : Int),x_51.2)))) else (k_77 x_51.2))
def m33o (n : Nat) (a0 : R23) (a1 : (List R56)) : Option ((List Int) × Int) :=
  ((m59 n (R23.mk a0.Lq a0.Dq a0.Sq a0.Kq) a1).bind fun y_1 => (if (!y_1) = true then (some ([],(1 : Int))) else ((mk (0 : Int) (a0.Lq.length : Int) (a0.Lq.length : Int)).bind fun l2_2 => (jn (fun p_76 : (List Int) => (some (p_76,(0 : Int)))) fun k_77 => (loopM (m33o_L3 n a1 k_77) n ((0 : Int),l2_2))))))
def m41_L1 (n : Nat) (a0 : R23) (y_1 : ((List Int) × Int)) (k_12 : Unit → Option Bool) (nx_7 : Int → Option Bool) (x_6 : Int) : Option Bool :=
  (if (decide (x_6 < (y_1.1.length : Int))) = true then ((getIdx y_1.1 x_6).bind fun y_8 => ((getIdx a0.Dq x_6).bind fun y_9 => (if (decide (y_8 < y_9)) = true then (some false) else (letM ((IntKind.wrap .i64 (x_6 + (1 : Int)))) fun t17_10 => (nx_7 t17_10))))) else (k_12 ()))
def m41 (n : Nat) (a0 : R23) (a1 : (List R56)) : Option Bool :=
  ((m33 n (R23.mk a0.Lq a0.Dq a0.Sq a0.Kq) a1).bind fun y_1 => (jn (fun p_11 : Unit => (some (decide (y_1.2 = (0 : Int))))) fun k_12 => (loopM (m41_L1 n a0 y_1 k_12) n (0 : Int))))
def m60 (n : Nat) (a0 : (List R56)) : Option Unit :=
  (some ())
def m70 (n : Nat) (a0 : (List R56)) : Option Unit :=
  (some ())
def m78_L1 (n : Nat) (a1_b0 : (List R56)) (k_22 : Unit → Option (List (Int × R56))) (nx_15 : Int → Option (List (Int × R56))) (x_14 : Int) : Option (List (Int × R56)) :=
  (if (decide ((0 : Int) ≤ x_14)) = true then ((getIdx a1_b0 x_14).bind fun y_16 => (yldM false (x_14,(R56.mk y_16.Pq y_16.Cq)) (letM ((IntKind.wrap .i64 (x_14 - (1 : Int)))) fun t3_20 => (nx_15 t3_20)))) else (k_22 ()))
def m78 (n : Nat) (a1_b0 : (List R56)) : Option (List (Int × R56)) :=
  (letM ((IntKind.wrap .i64 ((a1_b0.length : Int) - (1 : Int)))) fun t3_1 => (jn (fun p_21 : Unit => (some [])) fun k_22 => (loopM (m78_L1 n a1_b0 k_22) n t3_1)))
def m53o (n : Nat) (a0 : (List Int)) : Option (List Int) :=
  ((apd ([] : List Int) a0).bind fun l1_2 => (some l1_2))
def m69_L3 (n : Nat) (e_3 : (Int × R56)) (k_32 : Unit → Option (List (List Int))) (nx_26 : Int → Option (List (List Int))) (x_25 : Int) : Option (List (List Int)) :=
  (if (decide (x_25 < e_3.2.Cq)) = true then ((m53o n e_3.2.Pq).bind fun y_27 => (yldM false y_27 (letM ((IntKind.wrap .i64 (x_25 + (1 : Int)))) fun t11_30 => (nx_26 t11_30)))) else (k_32 ()))
def m69_R2 (n : Nat) (nx_19 : Unit → Option (List (List Int))) (e_3 : (Int × R56)) (x_18 : Unit) : Option (List (List Int)) :=
  (jn (fun p_31 : Unit => (nx_19 ())) fun k_32 => (loopM (m69_L3 n e_3 k_32) n (0 : Int)))
def m69 (n : Nat) (a1_b0 : (List R56)) : Option (List (List Int)) :=
  ((m70 n a1_b0).bind fun y_1 => ((m78 n a1_b0).bind fun y_2 => (rangeL (m69_R2 n) y_2 (fun p_33 : Unit => (some [])) ())))
def m62 (n : Nat) (a0 : Int) : Option Bool :=
  (some (decide ((0 : Int) < a0)))
def m71x1_L1 (n : Nat) (a0 : (List Int)) (k_11 : Unit → Option Int) (nx_6 : Int → Option Int) (x_5 : Int) : Option Int :=
  (if (decide (x_5 < (a0.length : Int))) = true then ((getIdx a0 x_5).bind fun y_7 => ((m62 n y_7).bind fun y_8 => (if y_8 = true then (some x_5) else (letM ((IntKind.wrap .i64 (x_5 + (1 : Int)))) fun t8_9 => (nx_6 t8_9))))) else (k_11 ()))
def m71x1 (n : Nat) (a0 : (List Int)) : Option Int :=
  (jn (fun p_10 : Unit => (some (-1 : Int))) fun k_11 => (loopM (m71x1_L1 n a0 k_11) n (0 : Int)))
def m61x1 (n : Nat) (a0 : (List Int)) : Option Bool :=
  ((m71x1 n a0).bind fun y_1 => (some (decide ((0 : Int) ≤ y_1))))
def m39_L5 (n : Nat) (e_27 : (List Int)) (k_147 : ((List Int) × (List Int)) → Option ((List R56) × Int)) (nx_135 : (Int × (List Int) × (List Int)) → Option ((List R56) × Int)) (x_134 : (Int × (List Int) × (List Int))) : Option ((List R56) × Int) :=
  (if (decide (x_134.1 < (e_27.length : Int))) = true then ((getIdx x_134.2.1 x_134.1).bind fun y_136 => ((getIdx x_134.2.2 x_134.1).bind fun y_137 => (letM ((if y_137 < y_136 then y_137 else y_136)) fun t12_138 => ((getIdx x_134.2.1 x_134.1).bind fun y_139 => ((getIdx x_134.2.1 x_134.1).bind fun y_140 => ((setIdx x_134.2.1 x_134.1 (IntKind.wrap .i64 (y_139 - t12_138))).bind fun l7_141 => ((getIdx x_134.2.2 x_134.1).bind fun y_142 => ((getIdx x_134.2.2 x_134.1).bind fun y_143 => ((setIdx x_134.2.2 x_134.1 (IntKind.wrap .i64 (y_142 - t12_138))).bind fun l2_144 => (letM ((IntKind.wrap .i64 (x_134.1 + (1 : Int)))) fun t49_145 => (nx_135 (t49_145,l7_141,l2_144)))))))))))) else (k_147 (x_134.2.1,x_134.2.2)))
def m39_R4 (n : Nat) (nx_111 : ((List Int) × (List R56)) → Option ((List R56) × Int)) (e_27 : (List Int)) (x_110 : ((List Int) × (List R56))) : Option ((List R56) × Int) :=
  (jn (fun p_146 : (List Int) × (List Int) => ((m61x1 n p_146.1).bind fun y_148 => (jn (fun p_150 : (List R56) => (nx_111 (p_146.2,p_150))) fun k_151 => (if y_148 = true then ((apd x_110.2 ([(R56.mk p_146.1 (1 : Int))] : List R56)).bind fun l6_149 => (k_151 l6_149)) else (k_151 x_110.2))))) fun k_147 => (loopM (m39_L5 n e_27 k_147) n ((0 : Int),e_27,x_110.1)))
def m39_L1 (n : Nat) (a0 : R23) (y_1 : ((List Int) × Int)) (k_23 : (List Int) → Option ((List R56) × Int)) (nx_16 : (Int × (List Int)) → Option ((List R56) × Int)) (x_15 : (Int × (List Int))) : Option ((List R56) × Int) :=
  (if (decide (x_15.1 < (y_1.1.length : Int))) = true then ((getIdx x_15.2 x_15.1).bind fun y_17 => ((getIdx a0.Dq x_15.1).bind fun y_18 => ((getIdx x_15.2 x_15.1).bind fun y_19 => ((setIdx x_15.2 x_15.1 (IntKind.wrap .i64 (y_17 - y_18))).bind fun l2_20 => (letM ((IntKind.wrap .i64 (x_15.1 + (1 : Int)))) fun t28_21 => (nx_16 (t28_21,l2_20))))))) else (k_23 x_15.2))
def m39 (n : Nat) (a0 : R23) (a1 : (List R56)) : Option ((List R56) × Int) :=
  ((m33o n (R23.mk a0.Lq a0.Dq a0.Sq a0.Kq) a1).bind fun y_1 => (if (!decide (y_1.2 = (0 : Int))) = true then (some (([] : List R56),y_1.2)) else ((m41 n (R23.mk a0.Lq a0.Dq a0.Sq a0.Kq) a1).bind fun y_2 => (if (!y_2) = true then (some (([] : List R56),(18 : Int))) else (jn (fun p_22 : (List Int) => ((m31 n a1).bind fun y_24 => ((m60 n y_24).bind fun y_25 => ((m69 n y_24).bind fun y_26 => (rangeL (m39_R4 n) y_26 (fun p_152 : (List Int) × (List R56) => ((m31 n p_152.2).bind fun y_153 => (some (y_153,(0 : Int))))) (p_22,([] : List R56))))))) fun k_23 => (loopM (m39_L1 n a0 y_1 k_23) n ((0 : Int),y_1.1)))))))
def m38o_L4 (n : Nat) (a1 : (List R56)) (x_61 : Int × (List Int)) (k_89 : (List Int) → Option ((List Int) × Int)) (nx_80 : (Int × (List Int)) → Option ((List Int) × Int)) (x_79 : (Int × (List Int))) : Option ((List Int) × Int) :=
  (if (decide (x_79.1 < (x_79.2.length : Int))) = true then ((getIdx x_79.2 x_79.1).bind fun y_81 => ((getIdx a1 x_61.1).bind fun y_82 => ((getIdx y_82.Pq x_79.1).bind fun y_83 => ((getIdx a1 x_61.1).bind fun y_84 => ((getIdx x_79.2 x_79.1).bind fun y_85 => ((setIdx x_79.2 x_79.1 (IntKind.wrap .i64 (y_81 + (IntKind.wrap .i64 (y_83 * y_84.Cq))))).bind fun l2_86 => (letM ((IntKind.wrap .i64 (x_79.1 + (1 : Int)))) fun t8_87 => (nx_80 (t8_87,l2_86))))))))) else (k_89 x_79.2))
def m38o_L3 (n : Nat) (a1 : (List R56)) (k_92 : (List Int) → Option ((List Int) × Int)) (nx_62 : (Int × (List Int)) → Option ((List Int) × Int)) (x_61 : (Int × (List Int))) : Option ((List Int) × Int) :=
  (if (decide (x_61.1 < (a1.length : Int))) = true then (jn (fun p_88 : (List Int) => (letM ((IntKind.wrap .i64 (x_61.1 + (1 : Int)))) fun t7_90 => (nx_62 (t7_90,p_88)))) fun k_89 => (loopM (m38o_L4 n a1 x_61 k_89) n ((0 : Int),x_61.2))) else (k_92 x_61.2))
def m38o (n : Nat) (a0 : R23) (a1 : (List R56)) : Option ((List Int) × Int) :=
  ((m30 n (R23.mk a0.Lq a0.Dq a0.Sq a0.Kq) a1).bind fun y_1 => (if (!y_1) = true then (some ([],(1 : Int))) else ((mk (0 : Int) (a0.Lq.length : Int) (a0.Lq.length : Int)).bind fun l2_2 => (jn (fun p_91 : (List Int) => (some (p_91,(0 : Int)))) fun k_92 => (loopM (m38o_L3 n a1 k_92) n ((0 : Int),l2_2))))))
def m42_L1 (n : Nat) (a0 : R23) (y_1 : ((List Int) × Int)) (k_12 : Unit → Option Bool) (nx_7 : Int → Option Bool) (x_6 : Int) : Option Bool :=
  (if (decide (x_6 < (y_1.1.length : Int))) = true then ((getIdx y_1.1 x_6).bind fun y_8 => ((getIdx a0.Dq x_6).bind fun y_9 => (if (decide (y_8 < y_9)) = true then (some false) else (letM ((IntKind.wrap .i64 (x_6 + (1 : Int)))) fun t7_10 => (nx_7 t7_10))))) else (k_12 ()))
def m42 (n : Nat) (a0 : R23) (a1 : (List R56)) : Option Bool :=
  ((m38 n (R23.mk a0.Lq a0.Dq a0.Sq a0.Kq) a1).bind fun y_1 => (if (!decide (y_1.2 = (0 : Int))) = true then (some false) else (jn (fun p_11 : Unit => (some true)) fun k_12 => (loopM (m42_L1 n a0 y_1 k_12) n (0 : Int)))))
def m44_L8 (n : Nat) (p_108 : (List R56)) (x_169 : (List R56) × Int) (k_189 : Int → Option (List R56)) (nx_183 : Int → Option (List R56)) (x_182 : Int) : Option (List R56) :=
  ((gdO (decide ((0 : Int) < x_182)) (getIdx p_108 x_169.2) default).bind fun y_184 => ((gdO (decide ((0 : Int) < x_182)) (getIdx x_169.1 (IntKind.wrap .i64 (x_182 - (1 : Int)))) default).bind fun y_185 => ((gdO (decide ((0 : Int) < x_182)) (m15 n y_184.Pq y_185.Pq) default).bind fun y_186 => (if ((decide ((0 : Int) < x_182)) && y_186) = true then (letM ((IntKind.wrap .i64 (x_182 - (1 : Int)))) fun t9_187 => (nx_183 t9_187)) else (k_189 x_182)))))
def m44_L7 (n : Nat) (p_108 : (List R56)) (k_200 : (List R56) → Option (List R56)) (nx_170 : ((List R56) × Int) → Option (List R56)) (x_169 : ((List R56) × Int)) : Option (List R56) :=
  (if (decide (x_169.2 < (p_108.length : Int))) = true then (jn (fun p_196 : (List R56) => (letM ((IntKind.wrap .i64 (x_169.2 + (1 : Int)))) fun t8_198 => (nx_170 (p_196,t8_198)))) fun k_197 => ((getIdx p_108 x_169.2).bind fun y_171 => (if (decide (y_171.Cq < (1 : Int))) = true then (k_197 x_169.1) else (jn (fun p_188 : Int => ((slc x_169.1 (0 : Int) p_188).bind fun s_190 => ((getIdx p_108 x_169.2).bind fun y_191 => ((slc x_169.1 p_188 (x_169.1.length : Int)).bind fun s_192 => ((apd ([(R56.mk y_191.Pq y_191.Cq)] : List R56) s_192).bind fun l4_193 => (asrt (l4_193.length ≠ 0) ((apd s_190 l4_193).bind fun l5_195 => (k_197 l5_195)))))))) fun k_189 => (loopM (m44_L8 n p_108 x_169 k_189) n (x_169.1.length : Int)))))) else (k_200 x_169.1))
def m44_L4 (n : Nat) (a0 : (List R56)) (x_72 : Int × (List R56)) (k_97 : Int → Option (List R56)) (nx_89 : (Int × Int) → Option (List R56)) (x_88 : (Int × Int)) : Option (List R56) :=
  (if (decide (x_88.2 < (x_72.2.length : Int))) = true then ((getIdx x_72.2 x_88.2).bind fun y_90 => ((getIdx a0 x_72.1).bind fun y_91 => ((m34 n y_90.Pq y_91.Pq).bind fun y_92 => (jn (fun p_93 : Int => (letM ((IntKind.wrap .i64 (x_88.2 + (1 : Int)))) fun t7_95 => (nx_89 (p_93,t7_95)))) fun k_94 => (if y_92 = true then (k_94 x_88.2) else (k_94 x_88.1)))))) else (k_97 x_88.1))
def m44_L3 (n : Nat) (a0 : (List R56)) (k_109 : (List R56) → Option (List R56)) (nx_73 : (Int × (List R56)) → Option (List R56)) (x_72 : (Int × (List R56))) : Option (List R56) :=
  (if (decide (x_72.1 < (a0.length : Int))) = true then (jn (fun p_96 : Int => (jn (fun p_101 : (List R56) => ((getIdx p_101 p_96).bind fun y_103 => ((getIdx a0 x_72.1).bind fun y_104 => ((getIdx p_101 p_96).bind fun y_105 => ((setIdx p_101 p_96 ({ y_105 with Cq := (IntKind.wrap .i64 (y_103.Cq + y_104.Cq)) })).bind fun l1_106 => (letM ((IntKind.wrap .i64 (x_72.1 + (1 : Int)))) fun t5_107 => (nx_73 (t5_107,l1_106)))))))) fun k_102 => (if (decide (p_96 = (x_72.2.length : Int))) = true then ((getIdx a0 x_72.1).bind fun y_98 => ((apd ([] : List Int) y_98.Pq).bind fun l2_99 => ((apd x_72.2 ([(R56.mk l2_99 (0 : Int))] : List R56)).bind fun l1_100 => (k_102 l1_100)))) else (k_102 x_72.2)))) fun k_97 => (loopM (m44_L4 n a0 x_72 k_97) n ((x_72.2.length : Int),(0 : Int)))) else (k_109 x_72.2))
def m44 (n : Nat) (a0 : (List R56)) : Option (List R56) :=
  (jn (fun p_108 : (List R56) => (jn (fun p_199 : (List R56) => (some p_199)) fun k_200 => (loopM (m44_L7 n p_108 k_200) n (([] : List R56),(0 : Int))))) fun k_109 => (loopM (m44_L3 n a0 k_109) n ((0 : Int),([] : List R56))))
def m40_L13 (n : Nat) (a0 : R23) (k_463 : (Bool × (List Int) × (List Int)) → Option ((List R56) × Int)) (nx_449 : (Bool × Int × (List Int) × (List Int)) → Option ((List R56) × Int)) (x_448 : (Bool × Int × (List Int) × (List Int))) : Option ((List R56) × Int) :=
  (if (decide (x_448.2.1 < (x_448.2.2.2.length : Int))) = true then ((getIdx x_448.2.2.2 x_448.2.1).bind fun y_450 => ((getIdx x_448.2.2.1 x_448.2.1).bind fun y_451 => ((getIdx a0.Dq x_448.2.1).bind fun y_452 => (letM ((if (IntKind.wrap .i64 (y_451 - y_452)) < y_450 then (IntKind.wrap .i64 (y_451 - y_452)) else y_450)) fun t15_453 => ((getIdx x_448.2.2.2 x_448.2.1).bind fun y_454 => ((getIdx x_448.2.2.2 x_448.2.1).bind fun y_455 => ((setIdx x_448.2.2.2 x_448.2.1 (IntKind.wrap .i64 (y_454 - t15_453))).bind fun l4_456 => ((getIdx x_448.2.2.1 x_448.2.1).bind fun y_457 => ((getIdx x_448.2.2.1 x_448.2.1).bind fun y_458 => ((setIdx x_448.2.2.1 x_448.2.1 (IntKind.wrap .i64 (y_457 - t15_453))).bind fun l2_459 => ((gdO (!x_448.1) (getIdx l4_456 x_448.2.1) default).bind fun y_460 => (letM ((IntKind.wrap .i64 (x_448.2.1 + (1 : Int)))) fun t14_461 => (nx_449 ((x_448.1 || (decide ((0 : Int) < y_460))),t14_461,l2_459,l4_456)))))))))))))) else (k_463 (x_448.1,x_448.2.2.1,x_448.2.2.2)))
def m40_L12 (n : Nat) (a0 : R23) (y_3 : (List R56)) (x_315 : Int × (List Int) × (List R56)) (k_469 : ((List Int) × (List R56)) → Option ((List R56) × Int)) (nx_418 : (Int × (List Int) × (List R56)) → Option ((List R56) × Int)) (x_417 : (Int × (List Int) × (List R56))) : Option ((List R56) × Int) :=
  ((getIdx y_3 x_315.1).bind fun y_419 => (if (decide (x_417.1 < y_419.Cq)) = true then ((getIdx y_3 x_315.1).bind fun y_420 => ((apd ([] : List Int) y_420.Pq).bind fun l4_421 => (jn (fun p_462 : Bool × (List Int) × (List Int) => (jn (fun p_465 : (List R56) => (letM ((IntKind.wrap .i64 (x_417.1 + (1 : Int)))) fun t11_467 => (nx_418 (t11_467,p_462.2.1,p_465)))) fun k_466 => (if p_462.1 = true then ((apd x_417.2.2 ([(R56.mk p_462.2.2 (1 : Int))] : List R56)).bind fun l3_464 => (k_466 l3_464)) else (k_466 x_417.2.2)))) fun k_463 => (loopM (m40_L13 n a0 k_463) n (false,(0 : Int),x_417.2.1,l4_421))))) else (k_469 (x_417.2.1,x_417.2.2))))
def m40_L9 (n : Nat) (a0 : R23) (y_3 : (List R56)) (k_472 : (List R56) → Option ((List R56) × Int)) (nx_316 : (Int × (List Int) × (List R56)) → Option ((List R56) × Int)) (x_315 : (Int × (List Int) × (List R56))) : Option ((List R56) × Int) :=
  (if (decide ((0 : Int) ≤ x_315.1)) = true then (jn (fun p_468 : (List Int) × (List R56) => (letM ((IntKind.wrap .i64 (x_315.1 - (1 : Int)))) fun t10_470 => (nx_316 (t10_470,p_468.1,p_468.2)))) fun k_469 => (loopM (m40_L12 n a0 y_3 x_315 k_469) n ((0 : Int),x_315.2.1,x_315.2.2))) else (k_472 x_315.2.2))
def m40 (n : Nat) (a0 : R23) (a1 : (List R56)) : Option ((List R56) × Int) :=
  ((m38o n (R23.mk a0.Lq a0.Dq a0.Sq a0.Kq) a1).bind fun y_1 => (if (!decide (y_1.2 = (0 : Int))) = true then (some (([] : List R56),y_1.2)) else ((m42 n (R23.mk a0.Lq a0.Dq a0.Sq a0.Kq) a1).bind fun y_2 => (if (!y_2) = true then (some (([] : List R56),(18 : Int))) else ((m44 n a1).bind fun y_3 => (letM ((IntKind.wrap .i64 ((y_3.length : Int) - (1 : Int)))) fun t10_4 => (jn (fun p_471 : (List R56) => ((m44 n p_471).bind fun y_473 => (some (y_473,(0 : Int))))) fun k_472 => (loopM (m40_L9 n a0 y_3 k_472) n (t10_4,y_1.1,([] : List R56))))))))))
def m43_L1 (n : Nat) (a0 : (List R56)) (k_11 : Int → Option Int) (nx_6 : (Int × Int) → Option Int) (x_5 : (Int × Int)) : Option Int :=
  (if (decide (x_5.2 < (a0.length : Int))) = true then ((getIdx a0 x_5.2).bind fun y_7 => (letM ((IntKind.wrap .i64 (x_5.1 + y_7.Cq))) fun t3_8 => (letM ((IntKind.wrap .i64 (x_5.2 + (1 : Int)))) fun t4_9 => (nx_6 (t3_8,t4_9))))) else (k_11 x_5.1))
def m43 (n : Nat) (a0 : (List R56)) : Option Int :=
  (jn (fun p_10 : Int => (some p_10)) fun k_11 => (loopM (m43_L1 n a0 k_11) n ((0 : Int),(0 : Int))))
def m8 (n : Nat) (a0 : R23) (a1 : (List R56)) : Option Bool :=
  ((m10 n).bind fun y_1 => ((gdO (!(!y_1)) (m11 n (R23.mk a0.Lq a0.Dq a0.Sq a0.Kq)) default).bind fun y_2 => ((gdO (!((!y_1) || (!y_2))) (m29 n a1) default).bind fun y_3 => (if (((!y_1) || (!y_2)) || (!y_3)) = true then ((m10 n).bind fun y_4 => (some y_4)) else ((m32 n a1).bind fun y_5 => ((m33 n (R23.mk a0.Lq a0.Dq a0.Sq a0.Kq) y_5).bind fun y_6 => ((m38 n (R23.mk a0.Lq a0.Dq a0.Sq a0.Kq) a1).bind fun y_7 => ((m39 n (R23.mk a0.Lq a0.Dq a0.Sq a0.Kq) y_5).bind fun y_8 => ((m40 n (R23.mk a0.Lq a0.Dq a0.Sq a0.Kq) a1).bind fun y_9 => ((gdO (decide (y_6.2 = y_7.2)) (m34 n y_6.1 y_7.1) default).bind fun y_10 => ((gdO (((decide (y_6.2 = y_7.2)) && y_10) && (decide (y_8.2 = y_9.2))) (m37 n y_8.1) default).bind fun y_11 => ((gdO (((decide (y_6.2 = y_7.2)) && y_10) && (decide (y_8.2 = y_9.2))) (m36 n y_11 y_9.1) default).bind fun y_12 => ((gdO ((((decide (y_6.2 = y_7.2)) && y_10) && (decide (y_8.2 = y_9.2))) && y_12) (m41 n (R23.mk a0.Lq a0.Dq a0.Sq a0.Kq) y_5) default).bind fun y_13 => ((gdO ((((decide (y_6.2 = y_7.2)) && y_10) && (decide (y_8.2 = y_9.2))) && y_12) (m42 n (R23.mk a0.Lq a0.Dq a0.Sq a0.Kq) a1) default).bind fun y_14 => ((gdO (((((decide (y_6.2 = y_7.2)) && y_10) && (decide (y_8.2 = y_9.2))) && y_12) && (y_13 == y_14)) (m35 n y_5) default).bind fun y_15 => ((gdO (((((decide (y_6.2 = y_7.2)) && y_10) && (decide (y_8.2 = y_9.2))) && y_12) && (y_13 == y_14)) (m43 n a1) default).bind fun y_16 => ((gdO ((((((decide (y_6.2 = y_7.2)) && y_10) && (decide (y_8.2 = y_9.2))) && y_12) && (y_13 == y_14)) && (decide (y_15 = y_16))) (m31 n y_5) default).bind fun y_17 => ((gdO ((((((decide (y_6.2 = y_7.2)) && y_10) && (decide (y_8.2 = y_9.2))) && y_12) && (y_13 == y_14)) && (decide (y_15 = y_16))) (m37 n y_17) default).bind fun y_18 => ((gdO ((((((decide (y_6.2 = y_7.2)) && y_10) && (decide (y_8.2 = y_9.2))) && y_12) && (y_13 == y_14)) && (decide (y_15 = y_16))) (m44 n a1) default).bind fun y_19 => ((gdO ((((((decide (y_6.2 = y_7.2)) && y_10) && (decide (y_8.2 = y_9.2))) && y_12) && (y_13 == y_14)) && (decide (y_15 = y_16))) (m36 n y_18 y_19) default).bind fun y_20 => (some (((((((decide (y_6.2 = y_7.2)) && y_10) && (decide (y_8.2 = y_9.2))) && y_12) && (y_13 == y_14)) && (decide (y_15 = y_16))) && y_20))))))))))))))))))))))
abbrev pW (b c : Bool) (p : R23) : List AV := [rW b p.Lq eW,rW c p.Dq eW,iW p.Sq,iW p.Kq]
theorem Need.t {C : Ctx} {l : List (Nat × AV)} {E : List (Nat × AV)} {H : List (Nat × Blk)} (h : Need l E) (k : Nat) {d : Nat} {v : AV} (hk : l[k]? = some (d,v)) : Ev C ⟨E,H⟩ (.tmp d) v := .tmp (h.at hk)
theorem AWP.vs {C : Ctx} {c : Code} {Q : Exit → St → Prop} {s : St} (s' : St) (h1 : lkE s'.env s.env = smE s'.env) (h2 : lkH s'.heap s.heap = smH s'.heap) (k : AWP C c Q s') : AWP C c Q s := AWP.vc (VC.sub (SubE.of h1) (SubH.of h2)) k
end Go.AB
