import Derived.Test.YtiginjokbkemcaaProg
import Derived.Test.YtiginjokbkemcaaBe
import Derived.KernelRfl
set_option linter.unusedVariables false
set_option maxRecDepth 20000
namespace Go.AB
open Go Go.Proofs
abbrev rW {α : Type} (b : Bool) (l : List α) (e : α → List AV) : AV := .rd b l.length (l.flatMap e)
abbrev iW (n : Int) : AV := .sc (.int .i64 n)
abbrev bW (b : Bool) : AV := .sc (.bool b)
abbrev eW : Int → List AV := encI .i64
def lkE : List (Nat × AV) → List (Nat × AV) → List (Option AV)
  | [],_ => []
  | (d,_) :: l,e => look d e :: lkE l e
def smE : List (Nat × AV) → List (Option AV)
  | [] => []
  | (_,v) :: l => some v :: smE l
theorem SubE.of : ∀ {l e : List (Nat × AV)},lkE l e = smE l → SubE l e
  | [],_,_ => .n _
  | (d,v) :: l,e,h => by
    simp only [lkE,smE,List.cons.injEq] at h
    exact .c h.1 (SubE.of h.2)
def lkH : List (Nat × Blk) → List (Nat × Blk) → List (Option Blk)
  | [],_ => []
  | (d,_) :: l,e => look d e :: lkH l e
def smH : List (Nat × Blk) → List (Option Blk)
  | [] => []
  | (_,v) :: l => some v :: smH l
theorem SubH.of : ∀ {l e : List (Nat × Blk)},lkH l e = smH l → SubH l e
  | [],_,_ => .n _
  | (d,v) :: l,e,h => by
    simp only [lkH,smH,List.cons.injEq] at h
    exact .c h.1 (SubH.of h.2)
theorem Ev.t {C : Ctx} {s : St} {t : Nat} {v : AV} (h : look t s.env = some v) : Ev C s (.tmp t) v := .tmp h
theorem zero46 : zeroT Try.prog 46 [.int .i64 0,.int .i64 0] := zeroT.mk (by kernel_rfl)
theorem sz3 : szOf Try.prog 3 1 := szOf.mk (by kernel_rfl)
theorem offs46 : offsOf Try.prog 46 [(0,1),(1,1)] := ⟨_,Try.underlying46,rfl,.cons sz3 (.cons sz3 (.nil))⟩
theorem el46 : elT Try.prog 46 2 16 := elT.mk (by kernel_rfl)
structure R45 where
  X : Int
  Y : Int
  deriving DecidableEq,Inhabited
def e45 (y : R45) : List AV := [.sc (.int .i64 y.X),.sc (.int .i64 y.Y)]
theorem encR45_len (y : R45) : (e45 y).length = 2 := rfl
theorem encR45_still (y : R45) : ∀ c,c ∈ e45 y → c.still = true := by simp [e45,AV.still]
theorem zero32 : zeroT Try.prog 32 [.slice none 0 0,.slice none 0 0] := zeroT.mk (by kernel_rfl)
theorem sz22 : szOf Try.prog 22 1 := szOf.mk (by kernel_rfl)
theorem sz23 : szOf Try.prog 23 1 := szOf.mk (by kernel_rfl)
theorem offs32 : offsOf Try.prog 32 [(0,1),(1,1)] := ⟨_,Try.underlying32,rfl,.cons sz22 (.cons sz23 (.nil))⟩
theorem sz32 : szOf Try.prog 32 2 := szOf.mk (by kernel_rfl)
theorem agg32 : aggT Try.prog 32 2 := ⟨sz32,_,Try.underlying32,trivial⟩
structure R93 where
  f0 : Int
  f1 : Int
  deriving DecidableEq,Inhabited
def e93 (y : R93) : List AV := [.sc (.int .i64 y.f0),.sc (.int .i64 y.f1)]
theorem encR93_len (y : R93) : (e93 y).length = 2 := rfl
structure R24 where
  Pq : (List R45)
  Bq : (List R93)
  deriving DecidableEq,Inhabited
def encR24 (y : R24) : List AV := [.rd false y.Pq.length (y.Pq.flatMap e45),.rd false y.Bq.length (y.Bq.flatMap e93)]
theorem fld32_0 : fldOf Try.prog 32 0 0 := ⟨_,_,Try.underlying32,rfl,rfl,0,sz22⟩
theorem one22 : oneT Try.prog 22 := ⟨_,Try.underlying22,trivial⟩
theorem zero3 : zeroT Try.prog 3 [.int .i64 0] := zeroT.mk (by kernel_rfl)
theorem one3 : oneT Try.prog 3 := ⟨_,Try.underlying3,trivial⟩
theorem fld32_1 : fldOf Try.prog 32 1 1 := ⟨_,_,Try.underlying32,rfl,rfl,0,sz23⟩
theorem one23 : oneT Try.prog 23 := ⟨_,Try.underlying23,trivial⟩
theorem sz46 : szOf Try.prog 46 2 := szOf.mk (by kernel_rfl)
theorem agg46 : aggT Try.prog 46 2 := ⟨sz46,_,Try.underlying46,trivial⟩
theorem fld46_0 : fldOf Try.prog 46 0 0 := ⟨_,_,Try.underlying46,rfl,rfl,0,sz3⟩
theorem fld46_1 : fldOf Try.prog 46 1 1 := ⟨_,_,Try.underlying46,rfl,rfl,0,sz3⟩
theorem sz93 : szOf Try.prog 93 2 := szOf.mk (by kernel_rfl)
theorem agg93 : aggT Try.prog 93 2 := ⟨sz93,_,Try.underlying93,trivial⟩
theorem el3 : elT Try.prog 3 1 8 := elT.mk (by kernel_rfl)
theorem zero4 : zeroT Try.prog 4 [.bool false] := zeroT.mk (by kernel_rfl)
theorem el4 : elT Try.prog 4 1 1 := elT.mk (by kernel_rfl)
theorem sz4 : szOf Try.prog 4 1 := szOf.mk (by kernel_rfl)
theorem zero93 : zeroT Try.prog 93 [.int .i64 0,.int .i64 0] := zeroT.mk (by kernel_rfl)
theorem one4 : oneT Try.prog 4 := ⟨_,Try.underlying4,trivial⟩
theorem zero28 : zeroT Try.prog 28 [.slice none 0 0] := zeroT.mk (by kernel_rfl)
theorem zero121 : zeroT Try.prog 121 [.nilFunc] := zeroT.mk (by kernel_rfl)
theorem sz121 : szOf Try.prog 121 1 := szOf.mk (by kernel_rfl)
theorem one121 : oneT Try.prog 121 := ⟨_,Try.underlying121,trivial⟩
theorem mixed : Try.prog.follows .mixedOrders = true := by kernel_rfl
theorem sz28 : szOf Try.prog 28 1 := szOf.mk (by kernel_rfl)
theorem one28 : oneT Try.prog 28 := ⟨_,Try.underlying28,trivial⟩
structure R52 where
  Gq : R24
  Path : (List Int)
  Ln : Int
  deriving DecidableEq,Inhabited
def encR52 (y : R52) : List AV := [.rd false y.Gq.Pq.length (y.Gq.Pq.flatMap e45),.rd false y.Gq.Bq.length (y.Gq.Bq.flatMap e93),.rd false y.Path.length (y.Path.flatMap (encI .i64)),.sc (.int .i64 y.Ln)]
theorem encR52_len (y : R52) : (encR52 y).length = 4 := rfl
theorem encR52_one (y : R52) : ∀ c,c ∈ encR52 y → c.one = true := by simp [encR52,AV.one]
theorem encR52_still (y : R52) : ∀ c,c ∈ encR52 y → c.still = true := by simp [encR52,AV.still]
theorem sz25 : szOf Try.prog 25 2 := szOf.mk (by kernel_rfl)
theorem fld53_0 : fldOf Try.prog 53 0 0 := ⟨_,_,Try.underlying53,rfl,rfl,1,sz25⟩
theorem agg25 : aggT Try.prog 25 2 := ⟨sz25,_,Try.underlying25,trivial⟩
theorem fld25_0 : fldOf Try.prog 25 0 0 := ⟨_,_,Try.underlying25,rfl,rfl,0,sz22⟩
theorem fld25_1 : fldOf Try.prog 25 1 1 := ⟨_,_,Try.underlying25,rfl,rfl,0,sz23⟩
theorem fld53_1 : fldOf Try.prog 53 1 2 := ⟨_,_,Try.underlying53,rfl,rfl,0,sz28⟩
theorem sz53 : szOf Try.prog 53 4 := szOf.mk (by kernel_rfl)
theorem agg53 : aggT Try.prog 53 4 := ⟨sz53,_,Try.underlying53,trivial⟩
structure R57 where
  Gq : R24
  Path : (List Int)
  Ln : Int
  deriving DecidableEq,Inhabited
def encR57 (y : R57) : List AV := [.rd false y.Gq.Pq.length (y.Gq.Pq.flatMap e45),.rd false y.Gq.Bq.length (y.Gq.Bq.flatMap e93),.rd false y.Path.length (y.Path.flatMap (encI .i64)),.sc (.int .i64 y.Ln)]
theorem encR57_len (y : R57) : (encR57 y).length = 4 := rfl
theorem encR57_one (y : R57) : ∀ c,c ∈ encR57 y → c.one = true := by simp [encR57,AV.one]
theorem encR57_still (y : R57) : ∀ c,c ∈ encR57 y → c.still = true := by simp [encR57,AV.still]
theorem zero58 : zeroT Try.prog 58 [.slice none 0 0,.slice none 0 0,.slice none 0 0,.int .i64 0] := zeroT.mk (by kernel_rfl)
theorem fld53_2 : fldOf Try.prog 53 2 3 := ⟨_,_,Try.underlying53,rfl,rfl,0,sz3⟩
theorem offs58 : offsOf Try.prog 58 [(0,2),(2,1),(3,1)] := ⟨_,Try.underlying58,rfl,.cons sz32 (.cons sz28 (.cons sz3 (.nil)))⟩
theorem sz58 : szOf Try.prog 58 4 := szOf.mk (by kernel_rfl)
theorem agg58 : aggT Try.prog 58 4 := ⟨sz58,_,Try.underlying58,trivial⟩
theorem fld58_0 : fldOf Try.prog 58 0 0 := ⟨_,_,Try.underlying58,rfl,rfl,1,sz32⟩
theorem fld58_1 : fldOf Try.prog 58 1 2 := ⟨_,_,Try.underlying58,rfl,rfl,0,sz28⟩
theorem fld58_2 : fldOf Try.prog 58 2 3 := ⟨_,_,Try.underlying58,rfl,rfl,0,sz3⟩
theorem el58 : elT Try.prog 58 4 80 := elT.mk (by kernel_rfl)
theorem zero53 : zeroT Try.prog 53 [.slice none 0 0,.slice none 0 0,.slice none 0 0,.int .i64 0] := zeroT.mk (by kernel_rfl)
theorem offs53 : offsOf Try.prog 53 [(0,2),(2,1),(3,1)] := ⟨_,Try.underlying53,rfl,.cons sz25 (.cons sz28 (.cons sz3 (.nil)))⟩
theorem el53 : elT Try.prog 53 4 80 := elT.mk (by kernel_rfl)
theorem zero25 : zeroT Try.prog 25 [.slice none 0 0,.slice none 0 0] := zeroT.mk (by kernel_rfl)
theorem sz5 : szOf Try.prog 5 1 := szOf.mk (by kernel_rfl)
theorem one5 : oneT Try.prog 5 := ⟨_,Try.underlying5,trivial⟩
structure R44 where
  f0 : Int
  f1 : Int
  f2 : Int
  deriving DecidableEq,Inhabited
inductive K74 where
  | mk (Split : Int) (Kd : (List K74)) (Lf : (List Int))
structure R74 where
  Split : Int
  Kd : (List K74)
  Lf : (List Int)
instance : Inhabited R74 := ⟨⟨default,[],default⟩⟩
def K74.out : K74 → R74
  | .mk Split Kd Lf => ⟨Split,Kd,Lf⟩
def K74.of (r : R74) : K74 := .mk r.Split r.Kd r.Lf
instance : Inhabited K74 := ⟨.of default⟩
theorem K74.of_out (y : K74) : K74.of y.out = y := by cases y; rfl
mutual
def encK74 : K74 → List AV
  | .mk Split Kd Lf => [.sc (.int .i64 Split),.rd false Kd.length (encK74s Kd),.rd false Lf.length (Lf.flatMap (encI .i64))]
def encK74s : List K74 → List AV
  | [] => []
  | y :: t => encK74 y ++ encK74s t
end
theorem encK74s_eq : ∀ l,encK74s l = l.flatMap encK74
  | [] => by rw [encK74s]; rfl
  | y :: t => by rw [encK74s,encK74s_eq t]; rfl
theorem encK74_of (y : R74) : encK74 (.of y) = [.sc (.int .i64 y.Split),.rd false y.Kd.length (y.Kd.flatMap encK74),.rd false y.Lf.length (y.Lf.flatMap (encI .i64))] := by
  unfold K74.of
  rw [encK74,encK74s_eq]
theorem encK74_out (y : K74) : encK74 y = [.sc (.int .i64 y.out.Split),.rd false y.out.Kd.length (y.out.Kd.flatMap encK74),.rd false y.out.Lf.length (y.out.Lf.flatMap (encI .i64))] := by
  have := encK74_of y.out
  rwa [K74.of_out] at this
theorem encK74_len (y : K74) : (encK74 y).length = 3 := by rw [encK74_out]; rfl
theorem sz75 : szOf Try.prog 75 3 := szOf.mk (by kernel_rfl)
theorem agg75 : aggT Try.prog 75 3 := ⟨sz75,_,Try.underlying75,trivial⟩
theorem sz73 : szOf Try.prog 73 1 := szOf.mk (by kernel_rfl)
theorem fld75_1 : fldOf Try.prog 75 1 1 := ⟨_,_,Try.underlying75,rfl,rfl,0,sz73⟩
theorem one73 : oneT Try.prog 73 := ⟨_,Try.underlying73,trivial⟩
inductive K79 where
  | mk (Split : Int) (Kd : (List K79)) (Lf : (List Int))
structure R79 where
  Split : Int
  Kd : (List K79)
  Lf : (List Int)
instance : Inhabited R79 := ⟨⟨default,[],default⟩⟩
def K79.out : K79 → R79
  | .mk Split Kd Lf => ⟨Split,Kd,Lf⟩
def K79.of (r : R79) : K79 := .mk r.Split r.Kd r.Lf
instance : Inhabited K79 := ⟨.of default⟩
theorem K79.of_out (y : K79) : K79.of y.out = y := by cases y; rfl
mutual
def encK79 : K79 → List AV
  | .mk Split Kd Lf => [.sc (.int .i64 Split),.rd false Kd.length (encK79s Kd),.rd false Lf.length (Lf.flatMap (encI .i64))]
def encK79s : List K79 → List AV
  | [] => []
  | y :: t => encK79 y ++ encK79s t
end
theorem encK79s_eq : ∀ l,encK79s l = l.flatMap encK79
  | [] => by rw [encK79s]; rfl
  | y :: t => by rw [encK79s,encK79s_eq t]; rfl
theorem encK79_of (y : R79) : encK79 (.of y) = [.sc (.int .i64 y.Split),.rd false y.Kd.length (y.Kd.flatMap encK79),.rd false y.Lf.length (y.Lf.flatMap (encI .i64))] := by
  unfold K79.of
  rw [encK79,encK79s_eq]
theorem encK79_out (y : K79) : encK79 y = [.sc (.int .i64 y.out.Split),.rd false y.out.Kd.length (y.out.Kd.flatMap encK79),.rd false y.out.Lf.length (y.out.Lf.flatMap (encI .i64))] := by
  have := encK79_of y.out
  rwa [K79.of_out] at this
theorem encK79_of1 (y : R79) : ([K79.of y] : List K79).flatMap encK79 = [.sc (.int .i64 y.Split),.rd false y.Kd.length (y.Kd.flatMap encK79),.rd false y.Lf.length (y.Lf.flatMap (encI .i64))] := by
  rw [List.flatMap_cons,encK79_of]; rfl
theorem encK79_len (y : K79) : (encK79 y).length = 3 := by rw [encK79_out]; rfl
theorem encK79_one (y : K79) : ∀ c,c ∈ encK79 y → c.one = true := by rw [encK79_out]; simp [AV.one]
theorem encK79_still (y : K79) : ∀ c,c ∈ encK79 y → c.still = true := by rw [encK79_out]; simp [AV.still]
theorem zero80 : zeroT Try.prog 80 [.int .i64 0,.slice none 0 0,.slice none 0 0] := zeroT.mk (by kernel_rfl)
theorem fld75_0 : fldOf Try.prog 75 0 0 := ⟨_,_,Try.underlying75,rfl,rfl,0,sz3⟩
theorem fld75_2 : fldOf Try.prog 75 2 2 := ⟨_,_,Try.underlying75,rfl,rfl,0,sz28⟩
theorem sz78 : szOf Try.prog 78 1 := szOf.mk (by kernel_rfl)
theorem offs80 : offsOf Try.prog 80 [(0,1),(1,1),(2,1)] := ⟨_,Try.underlying80,rfl,.cons sz3 (.cons sz78 (.cons sz28 (.nil)))⟩
theorem sz80 : szOf Try.prog 80 3 := szOf.mk (by kernel_rfl)
theorem zero75 : zeroT Try.prog 75 [.int .i64 0,.slice none 0 0,.slice none 0 0] := zeroT.mk (by kernel_rfl)
theorem fld80_1 : fldOf Try.prog 80 1 1 := ⟨_,_,Try.underlying80,rfl,rfl,0,sz78⟩
theorem one78 : oneT Try.prog 78 := ⟨_,Try.underlying78,trivial⟩
theorem el80 : elT Try.prog 80 3 56 := elT.mk (by kernel_rfl)
theorem agg80 : aggT Try.prog 80 3 := ⟨sz80,_,Try.underlying80,trivial⟩
theorem fld80_2 : fldOf Try.prog 80 2 2 := ⟨_,_,Try.underlying80,rfl,rfl,0,sz28⟩
theorem fld80_0 : fldOf Try.prog 80 0 0 := ⟨_,_,Try.underlying80,rfl,rfl,0,sz3⟩
theorem zero136 : zeroT Try.prog 136 [.nilFunc] := zeroT.mk (by kernel_rfl)
theorem sz136 : szOf Try.prog 136 1 := szOf.mk (by kernel_rfl)
theorem one136 : oneT Try.prog 136 := ⟨_,Try.underlying136,trivial⟩
theorem one63 : oneT Try.prog 63 := ⟨_,Try.underlying63,trivial⟩
theorem one56 : oneT Try.prog 56 := ⟨_,Try.underlying56,trivial⟩
theorem zero84 : zeroT Try.prog 84 [.slice none 0 0,.int .i64 0,.int .i64 0,.slice none 0 0,.slice none 0 0] := zeroT.mk (by kernel_rfl)
theorem offs84 : offsOf Try.prog 84 [(0,1),(1,1),(2,3)] := ⟨_,Try.underlying84,rfl,.cons sz28 (.cons sz3 (.cons sz80 (.nil)))⟩
theorem sz84 : szOf Try.prog 84 5 := szOf.mk (by kernel_rfl)
theorem zero86 : zeroT Try.prog 86 [.slice none 0 0,.int .i64 0,.int .i64 0,.slice none 0 0,.slice none 0 0] := zeroT.mk (by kernel_rfl)
theorem offs86 : offsOf Try.prog 86 [(0,1),(1,1),(2,3)] := ⟨_,Try.underlying86,rfl,.cons sz28 (.cons sz3 (.cons sz75 (.nil)))⟩
theorem sz86 : szOf Try.prog 86 5 := szOf.mk (by kernel_rfl)
theorem agg84 : aggT Try.prog 84 5 := ⟨sz84,_,Try.underlying84,trivial⟩
structure R83 where
  Order : (List Int)
  Ln : Int
  Proof : R79
  deriving Inhabited
theorem fld84_0 : fldOf Try.prog 84 0 0 := ⟨_,_,Try.underlying84,rfl,rfl,0,sz28⟩
theorem fld84_1 : fldOf Try.prog 84 1 1 := ⟨_,_,Try.underlying84,rfl,rfl,0,sz3⟩
theorem fld84_2 : fldOf Try.prog 84 2 2 := ⟨_,_,Try.underlying84,rfl,rfl,2,sz80⟩
theorem agg86 : aggT Try.prog 86 5 := ⟨sz86,_,Try.underlying86,trivial⟩
structure R85 where
  Order : (List Int)
  Ln : Int
  Proof : R74
  deriving Inhabited
theorem fld86_0 : fldOf Try.prog 86 0 0 := ⟨_,_,Try.underlying86,rfl,rfl,0,sz28⟩
theorem fld86_1 : fldOf Try.prog 86 1 1 := ⟨_,_,Try.underlying86,rfl,rfl,0,sz3⟩
theorem fld86_2 : fldOf Try.prog 86 2 2 := ⟨_,_,Try.underlying86,rfl,rfl,2,sz75⟩
def m54 (n : Nat) (a0 : R45) : Option Bool :=
  (some ((((decide (a0.X < (-8000 : Int))) || (decide ((8000 : Int) < a0.X))) || (decide (a0.Y < (-8000 : Int)))) || (decide ((8000 : Int) < a0.Y))))
def m86_L1 (n : Nat) (a0 : (List R45)) (k_11 : Unit → Option Int) (nx_6 : Int → Option Int) (x_5 : Int) : Option Int :=
  (if (decide (x_5 < (a0.length : Int))) = true then ((getIdx a0 x_5).bind fun y_7 => ((m54 n (R45.mk y_7.X y_7.Y)).bind fun y_8 => (if y_8 = true then (some x_5) else (letM ((IntKind.wrap .i64 (x_5 + (1 : Int)))) fun t8_9 => (nx_6 t8_9))))) else (k_11 ()))
def m86 (n : Nat) (a0 : (List R45)) : Option Int :=
  (jn (fun p_10 : Unit => (some (-1 : Int))) fun k_11 => (loopM (m86_L1 n a0 k_11) n (0 : Int)))
def m56 (n : Nat) (a0 : (List R45)) : Option Bool :=
  ((m86 n a0).bind fun y_1 => (some (decide ((0 : Int) ≤ y_1))))
def m55 (n : Nat) (a0 : R93) (a1_b0 : Int) : Option Bool :=
  (some (((((decide (a0.f0 < (1 : Int))) || (decide (a1_b0 ≤ a0.f0))) || (decide (a0.f1 < (1 : Int)))) || (decide (a1_b0 ≤ a0.f1))) || (decide (a0.f0 = a0.f1))))
def m87_L1 (n : Nat) (a0 : (List R93)) (a1_0_b0 : Int) (k_11 : Unit → Option Int) (nx_6 : Int → Option Int) (x_5 : Int) : Option Int :=
  (if (decide (x_5 < (a0.length : Int))) = true then ((getIdx a0 x_5).bind fun y_7 => ((m55 n (R93.mk y_7.f0 y_7.f1) a1_0_b0).bind fun y_8 => (if y_8 = true then (some x_5) else (letM ((IntKind.wrap .i64 (x_5 + (1 : Int)))) fun t8_9 => (nx_6 t8_9))))) else (k_11 ()))
def m87 (n : Nat) (a0 : (List R93)) (a1_0_b0 : Int) : Option Int :=
  (jn (fun p_10 : Unit => (some (-1 : Int))) fun k_11 => (loopM (m87_L1 n a0 a1_0_b0 k_11) n (0 : Int)))
def m57 (n : Nat) (a0 : (List R93)) (a1_0_b0 : Int) : Option Bool :=
  ((m87 n a0 a1_0_b0).bind fun y_1 => (some (decide ((0 : Int) ≤ y_1))))
def m89o (n : Nat) (a0 : (List Bool)) : Option (List Bool) :=
  ((apd ([] : List Bool) a0).bind fun l1_2 => (some l1_2))
def m62_L3 (n : Nat) (p_46 : (List Bool)) (k_68 : (List Int) → Option (List Int)) (nx_61 : (Int × (List Int)) → Option (List Int)) (x_60 : (Int × (List Int))) : Option (List Int) :=
  (if (decide (x_60.1 < (p_46.length : Int))) = true then ((getIdx p_46 x_60.1).bind fun y_62 => (jn (fun p_64 : (List Int) => (letM ((IntKind.wrap .i64 (x_60.1 + (1 : Int)))) fun t50_66 => (nx_61 (t50_66,p_64)))) fun k_65 => (if (!y_62) = true then ((apd x_60.2 ([x_60.1] : List Int)).bind fun l5_63 => (k_65 l5_63)) else (k_65 x_60.2)))) else (k_68 x_60.2))
def m62_L2 (n : Nat) (a0 : R24) (p_18 : (List Bool)) (k_47 : (List Bool) → Option (List Int)) (nx_38 : (Int × (List Bool)) → Option (List Int)) (x_37 : (Int × (List Bool))) : Option (List Int) :=
  (if (decide (x_37.1 < (a0.Bq.length : Int))) = true then ((getIdx a0.Bq x_37.1).bind fun y_39 => ((getIdx p_18 y_39.f0).bind fun y_40 => (jn (fun p_43 : (List Bool) => (letM ((IntKind.wrap .i64 (x_37.1 + (1 : Int)))) fun t33_45 => (nx_38 (t33_45,p_43)))) fun k_44 => (if (!y_40) = true then ((getIdx x_37.2 y_39.f1).bind fun y_41 => ((setIdx x_37.2 y_39.f1 true).bind fun l3_42 => (k_44 l3_42))) else (k_44 x_37.2))))) else (k_47 x_37.2))
def m62_L1 (n : Nat) (a1 : (List Int)) (k_19 : (List Bool) → Option (List Int)) (nx_13 : (Int × (List Bool)) → Option (List Int)) (x_12 : (Int × (List Bool))) : Option (List Int) :=
  (if (decide (x_12.1 < (a1.length : Int))) = true then ((getIdx a1 x_12.1).bind fun y_14 => ((getIdx x_12.2 y_14).bind fun y_15 => ((setIdx x_12.2 y_14 true).bind fun l2_16 => (letM ((IntKind.wrap .i64 (x_12.1 + (1 : Int)))) fun t20_17 => (nx_13 (t20_17,l2_16)))))) else (k_19 x_12.2))
def m62 (n : Nat) (a0 : R24) (a1 : (List Int)) : Option (List Int) :=
  ((mk false (a0.Pq.length : Int) (a0.Pq.length : Int)).bind fun l2_1 => (jn (fun p_18 : (List Bool) => ((m89o n p_18).bind fun y_20 => (jn (fun p_46 : (List Bool) => (jn (fun p_67 : (List Int) => (some p_67)) fun k_68 => (loopM (m62_L3 n p_46 k_68) n ((0 : Int),([] : List Int))))) fun k_47 => (loopM (m62_L2 n a0 p_18 k_47) n ((0 : Int),y_20))))) fun k_19 => (loopM (m62_L1 n a1 k_19) n ((0 : Int),l2_1))))
def m59 (n : Nat) (a0 : (List Int)) : Option Int :=
  ((getIdx a0 (0 : Int)).bind fun y_1 => (some y_1))
def m58_L1 (n : Nat) (a0 : R24) (k_15 : (List Int) → Option ((List Int) × Bool)) (nx_10 : (List Int) → Option ((List Int) × Bool)) (x_9 : (List Int)) : Option ((List Int) × Bool) :=
  (if (decide ((x_9.length : Int) < (a0.Pq.length : Int))) = true then ((m62 n (R24.mk a0.Pq a0.Bq) x_9).bind fun y_11 => (if (decide ((y_11.length : Int) = (0 : Int))) = true then (some (([] : List Int),false)) else ((m59 n y_11).bind fun y_12 => ((apd x_9 ([y_12] : List Int)).bind fun l2_13 => (nx_10 l2_13))))) else (k_15 x_9))
def m58 (n : Nat) (a0 : R24) : Option ((List Int) × Bool) :=
  (jn (fun p_14 : (List Int) => (some (p_14,true))) fun k_15 => (loopM (m58_L1 n a0 k_15) n ([(0 : Int)] : List Int)))
def m22 (n : Nat) (a0 : R24) : Option Bool :=
  ((gdO (!(((decide ((a0.Pq.length : Int) < (1 : Int))) || (decide ((60 : Int) < (a0.Pq.length : Int)))) || (decide ((200 : Int) < (a0.Bq.length : Int))))) (m56 n a0.Pq) default).bind fun y_1 => ((gdO (!((((decide ((a0.Pq.length : Int) < (1 : Int))) || (decide ((60 : Int) < (a0.Pq.length : Int)))) || (decide ((200 : Int) < (a0.Bq.length : Int)))) || y_1)) (m57 n a0.Bq (a0.Pq.length : Int)) default).bind fun y_2 => (letM ((((((decide ((a0.Pq.length : Int) < (1 : Int))) || (decide ((60 : Int) < (a0.Pq.length : Int)))) || (decide ((200 : Int) < (a0.Bq.length : Int)))) || y_1) || y_2)) fun t35_3 => (if t35_3 = true then (some false) else ((m58 n (R24.mk a0.Pq a0.Bq)).bind fun y_4 => (some y_4.2))))))
def m72 (n : Nat) (a0 : Int) : Option Int :=
  (letM ((if (IntKind.wrap .i64 (0 - a0)) > a0 then (IntKind.wrap .i64 (0 - a0)) else a0)) fun t2_1 => (some t2_1))
def m35 (n : Nat) (a0 : R45) (a1 : R45) : Option Int :=
  ((m72 n (IntKind.wrap .i64 (a0.X - a1.X))).bind fun y_1 => ((m72 n (IntKind.wrap .i64 (a0.Y - a1.Y))).bind fun y_2 => (letM ((if y_2 > y_1 then y_2 else y_1)) fun t4_3 => (some t4_3))))
def m79 (n : Nat) (a0 : R24) (a1 : Int) (a2 : Int) : Option Int :=
  ((getIdx a0.Pq a1).bind fun y_1 => ((getIdx a0.Pq a2).bind fun y_2 => ((m35 n (R45.mk y_1.X y_1.Y) (R45.mk y_2.X y_2.Y)).bind fun y_3 => (some y_3))))
def m63 (n : Nat) (a0 : (List Int)) : Option (List Int) :=
  ((apd ([] : List Int) a0).bind fun l1_2 => (some l1_2))
def m78_L1 (n : Nat) (a0_b : (List Int)) (a0_c : Nat) (a1 : Int) (a3_b0 : (List R45)) (a3_b1 : (List R93)) (rc_0 : (List Int) → Nat → Int → Int → (List R45) → (List R93) → (List Int) → Option ((List Int) × Int × (List Int))) (y_1 : Int) (y_7 : (List Int)) (k_28 : ((List Int) × Int × (List Int)) → Option ((List Int) × Int × (List Int))) (nx_21 : (Int × (List Int) × Int × (List Int)) → Option ((List Int) × Int × (List Int))) (x_20 : (Int × (List Int) × Int × (List Int))) : Option ((List Int) × Int × (List Int)) :=
  (if (decide (x_20.1 < (y_7.length : Int))) = true then ((getIdx y_7 x_20.1).bind fun y_22 => ((apc x_20.2.1 a0_b.length ([y_22] : List Int) a0_c).bind fun l1_23 => ((m79 n (R24.mk a3_b0 a3_b1) y_1 y_22).bind fun y_24 => ((rc_0 l1_23 a0_c (IntKind.wrap .i64 (a1 + y_24)) x_20.2.2.1 a3_b0 a3_b1 x_20.2.2.2).bind fun y_25 => (letM ((IntKind.wrap .i64 (x_20.1 + (1 : Int)))) fun t49_26 => (nx_21 (t49_26,y_25.1,y_25.2.1,y_25.2.2))))))) else (k_28 (x_20.2.1,x_20.2.2.1,x_20.2.2.2)))
def m78B (n : Nat) (rc_0 : (List Int) → Nat → Int → Int → (List R45) → (List R93) → (List Int) → Option ((List Int) × Int × (List Int))) (a0_b : (List Int)) (a0_c : Nat) (a1 : Int) (a2_b0 : Int) (a3_b0 : (List R45)) (a3_b1 : (List R93)) (a4_b0 : (List Int)) : Option ((List Int) × Int × (List Int)) :=
  (if ((decide ((0 : Int) ≤ a2_b0)) && (decide (a2_b0 ≤ a1))) = true then (some (a0_b,a2_b0,a4_b0)) else ((getIdx a0_b (IntKind.wrap .i64 ((a0_b.length : Int) - (1 : Int)))).bind fun y_1 => (if (decide ((a0_b.length : Int) = (a3_b0.length : Int))) = true then ((m79 n (R24.mk a3_b0 a3_b1) y_1 (0 : Int)).bind fun y_2 => (letM ((IntKind.wrap .i64 (a1 + y_2))) fun t1_3 => (jn (fun p_5 : Int × (List Int) => (some (a0_b,p_5.1,p_5.2))) fun k_6 => (if ((decide (a2_b0 < (0 : Int))) || (decide (t1_3 < a2_b0))) = true then ((m63 n a0_b).bind fun y_4 => (k_6 (t1_3,y_4))) else (k_6 (a2_b0,a4_b0)))))) else ((m62 n (R24.mk a3_b0 a3_b1) a0_b).bind fun y_7 => (jn (fun p_27 : (List Int) × Int × (List Int) => (some (p_27.1,p_27.2.1,p_27.2.2))) fun k_28 => (loopM (m78_L1 n a0_b a0_c a1 a3_b0 a3_b1 rc_0 y_1 y_7 k_28) n ((0 : Int),a0_b,a2_b0,a4_b0)))))))
def m78F (n : Nat) : Nat → (List Int) → Nat → Int → Int → (List R45) → (List R93) → (List Int) → Option ((List Int) × Int × (List Int))
  | 0 => fun _ _ _ _ _ _ _ => none
  | f + 1 => m78B n (m78F n f)
def m78 (n : Nat) (a0_b : (List Int)) (a0_c : Nat) (a1 : Int) (a2_b0 : Int) (a3_b0 : (List R45)) (a3_b1 : (List R93)) (a4_b0 : (List Int)) : Option ((List Int) × Int × (List Int)) := m78F n n a0_b a0_c a1 a2_b0 a3_b0 a3_b1 a4_b0
def m46 (n : Nat) (a0 : R24) : Option ((List Int) × Int) :=
  ((mk (0 : Int) (0 : Int) (a0.Pq.length : Int)).bind fun l5_1 => ((apc l5_1 l5_1.length ([(0 : Int)] : List Int) (((a0.Pq.length : Int)).toNat)).bind fun l5_2 => ((m78 n l5_2 (((a0.Pq.length : Int)).toNat) (0 : Int) (-1 : Int) a0.Pq a0.Bq ([] : List Int)).bind fun y_3 => (some (y_3.2.2,y_3.2.1)))))
def m13 (n : Nat) (a0 : R24) : Option ((List Int) × Int × Int) :=
  ((m22 n (R24.mk a0.Pq a0.Bq)).bind fun y_1 => (if (!y_1) = true then (some (([] : List Int),(0 : Int),(1 : Int))) else (if (decide ((8 : Int) < (a0.Pq.length : Int))) = true then (some (([] : List Int),(0 : Int),(9 : Int))) else ((m46 n (R24.mk a0.Pq a0.Bq)).bind fun y_2 => (some (y_2.1,y_2.2,(0 : Int)))))))
def m81 (n : Nat) (a0 : Int) : Option Bool :=
  (some ((decide (a0 < (-20000 : Int))) || (decide ((20000 : Int) < a0))))
def m101_L1 (n : Nat) (a0 : (List Int)) (k_11 : Unit → Option Int) (nx_6 : Int → Option Int) (x_5 : Int) : Option Int :=
  (if (decide (x_5 < (a0.length : Int))) = true then ((getIdx a0 x_5).bind fun y_7 => ((m81 n y_7).bind fun y_8 => (if y_8 = true then (some x_5) else (letM ((IntKind.wrap .i64 (x_5 + (1 : Int)))) fun t8_9 => (nx_6 t8_9))))) else (k_11 ()))
def m101 (n : Nat) (a0 : (List Int)) : Option Int :=
  (jn (fun p_10 : Unit => (some (-1 : Int))) fun k_11 => (loopM (m101_L1 n a0 k_11) n (0 : Int)))
def m80 (n : Nat) (a0 : (List Int)) : Option Bool :=
  ((m101 n a0).bind fun y_1 => (some (decide ((0 : Int) ≤ y_1))))
def m48 (n : Nat) (a0 : R24) (a1 : (List Int)) : Option Bool :=
  ((gdO (decide ((a1.length : Int) = (a0.Pq.length : Int))) (m80 n a1) default).bind fun y_1 => (some ((decide ((a1.length : Int) = (a0.Pq.length : Int))) && (!y_1))))
def m117 (n : Nat) (a0 : Int) (a1 : Int) : Option (Int × Int) :=
  (letM ((andI .u64 a0 (4294967295 : Int))) fun t6_1 => (letM ((andI .u64 a1 (4294967295 : Int))) fun t8_2 => (letM ((IntKind.wrap .u64 (t6_1 * t8_2))) fun t10_3 => (letM ((IntKind.wrap .u64 ((IntKind.wrap .u64 ((shrI .u64 a0 (32 : Int)) * t8_2)) + (shrI .u64 t10_3 (32 : Int))))) fun t11_4 => (letM ((andI .u64 t11_4 (4294967295 : Int))) fun t12_5 => (letM ((IntKind.wrap .u64 (t12_5 + (IntKind.wrap .u64 (t6_1 * (shrI .u64 a1 (32 : Int))))))) fun t12_6 => (letM ((IntKind.wrap .u64 ((IntKind.wrap .u64 ((IntKind.wrap .u64 ((shrI .u64 a0 (32 : Int)) * (shrI .u64 a1 (32 : Int)))) + (shrI .u64 t11_4 (32 : Int)))) + (shrI .u64 t12_6 (32 : Int))))) fun t4_7 => (letM ((IntKind.wrap .u64 (a0 * a1))) fun t5_8 => (some (t4_7,t5_8))))))))))
def m110 (n : Nat) (a0 : Int) (a1 : Int) : Option (Int × Int) :=
  ((m117 n a0 a1).bind fun y_1 => (some (y_1.1,y_1.2)))
def m102o_L1 (n : Nat) (k_22 : (List Int) → Option (List Int)) (nx_16 : (Int × (List Int)) → Option (List Int)) (x_15 : (Int × (List Int))) : Option (List Int) :=
  (if (decide (x_15.1 < (x_15.2.length : Int))) = true then ((slc x_15.2 (0 : Int) x_15.1).bind fun s_17 => ((slc x_15.2 (0 : Int) x_15.1).bind fun s_18 => ((cpy x_15.2 (0 + (x_15.1).toNat * 1) (x_15.2.length - (x_15.1).toNat) s_18).bind fun l1_19 => (letM ((IntKind.wrap .i64 (x_15.1 + ((min s_18.length (x_15.2.length - (x_15.1).toNat) : Nat) : Int)))) fun t8_20 => (nx_16 (t8_20,l1_19)))))) else (k_22 x_15.2))
def m102o (n : Nat) (a0 : (List Int)) (a1 : Int) : Option (List Int) :=
  (if (decide (a1 < (0 : Int))) = true then none else ((m110 n (IntKind.wrap .u64 (a0.length : Int)) (IntKind.wrap .u64 a1)).bind fun y_1 => (if ((decide ((0 : Int) < y_1.1)) || (decide ((9223372036854775807 : Int) < y_1.2))) = true then none else ((mk (0 : Int) (IntKind.wrap .i64 y_1.2) (IntKind.wrap .i64 y_1.2)).bind fun l1_2 => ((cpy l1_2 0 l1_2.length a0).bind fun l1_3 => (letM (((min a0.length l1_2.length : Nat) : Int)) fun t8_4 => (jn (fun p_21 : (List Int) => (some p_21)) fun k_22 => (loopM (m102o_L1 n k_22) n (t8_4,l1_3)))))))))
def m85 (n : Nat) (a0 : R24) (a1 : Int) (a2 : Int) (a3 : (List Int)) : Option Int :=
  ((m79 n (R24.mk a0.Pq a0.Bq) a1 a2).bind fun y_1 => ((getIdx a3 a1).bind fun y_2 => ((getIdx a3 a2).bind fun y_3 => (letM ((IntKind.wrap .i64 ((IntKind.wrap .i64 (y_1 + y_2)) + y_3))) fun t8_4 => (some t8_4)))))
def m82_L7 (n : Nat) (a0 : R24) (a1 : (List Int)) (a2 : (List Int)) (p_174 : Int × Int) (l5_177 : (List Bool)) (k_228 : (List Int) → Option (Int × (List Int))) (nx_214 : (Int × (List Int)) → Option (Int × (List Int))) (x_213 : (Int × (List Int))) : Option (Int × (List Int)) :=
  (if (decide (x_213.1 < (a1.length : Int))) = true then ((getIdx a1 x_213.1).bind fun y_215 => ((getIdx l5_177 x_213.1).bind fun y_216 => ((gdO (!y_216) (getIdx a1 p_174.1) default).bind fun y_217 => ((gdO (!y_216) (m85 n (R24.mk a0.Pq a0.Bq) y_215 y_217 a2) default).bind fun y_218 => ((gdO (!y_216) (getIdx x_213.2 x_213.1) default).bind fun y_219 => ((gdO (!y_216) (m85 n (R24.mk a0.Pq a0.Bq) y_215 y_219 a2) default).bind fun y_220 => (jn (fun p_224 : (List Int) => (letM ((IntKind.wrap .i64 (x_213.1 + (1 : Int)))) fun t97_226 => (nx_214 (t97_226,p_224)))) fun k_225 => (if ((!y_216) && (decide (y_218 < y_220))) = true then ((getIdx a1 p_174.1).bind fun y_221 => ((getIdx x_213.2 x_213.1).bind fun y_222 => ((setIdx x_213.2 x_213.1 y_221).bind fun l4_223 => (k_225 l4_223)))) else (k_225 x_213.2))))))))) else (k_228 x_213.2))
def m82_L6 (n : Nat) (a0 : R24) (a1 : (List Int)) (a2 : (List Int)) (x_155 : Int × Int × (List Int) × (List Int) × (List Bool)) (k_175 : (Int × Int) → Option (Int × (List Int))) (nx_166 : (Int × Int × Int) → Option (Int × (List Int))) (x_165 : (Int × Int × Int)) : Option (Int × (List Int)) :=
  (if (decide (x_165.2.2 < (a1.length : Int))) = true then ((getIdx a1 x_165.2.2).bind fun y_167 => ((getIdx x_155.2.2.2.1 x_165.2.2).bind fun y_168 => ((m85 n (R24.mk a0.Pq a0.Bq) y_167 y_168 a2).bind fun y_169 => ((getIdx x_155.2.2.2.2 x_165.2.2).bind fun y_170 => (jn (fun p_171 : Int × Int => (letM ((IntKind.wrap .i64 (x_165.2.2 + (1 : Int)))) fun t41_173 => (nx_166 (p_171.1,p_171.2,t41_173)))) fun k_172 => (if ((!y_170) && ((decide (x_165.1 < (0 : Int))) || (decide (y_169 < x_165.2.1)))) = true then (k_172 (x_165.2.2,y_169)) else (k_172 (x_165.1,x_165.2.1)))))))) else (k_175 (x_165.1,x_165.2.1)))
def m82_L5 (n : Nat) (a0 : R24) (a1 : (List Int)) (a2 : (List Int)) (t36_6 : Int) (k_231 : (Int × (List Int)) → Option (Int × (List Int))) (nx_156 : (Int × Int × (List Int) × (List Int) × (List Bool)) → Option (Int × (List Int))) (x_155 : (Int × Int × (List Int) × (List Int) × (List Bool))) : Option (Int × (List Int)) :=
  (if (decide (x_155.2.1 < t36_6)) = true then (jn (fun p_174 : Int × Int => ((getIdx x_155.2.2.2.2 p_174.1).bind fun y_176 => ((setIdx x_155.2.2.2.2 p_174.1 true).bind fun l5_177 => (letM ((IntKind.wrap .i64 (x_155.1 + p_174.2))) fun t11_178 => ((getIdx a1 p_174.1).bind fun y_179 => ((getIdx x_155.2.2.1 y_179).bind fun y_180 => ((getIdx x_155.2.2.1 y_179).bind fun y_181 => ((setIdx x_155.2.2.1 y_179 (IntKind.wrap .i64 (y_180 + (1 : Int)))).bind fun l1_182 => ((getIdx x_155.2.2.2.1 p_174.1).bind fun y_183 => ((getIdx l1_182 y_183).bind fun y_184 => ((getIdx l1_182 y_183).bind fun y_185 => ((setIdx l1_182 y_183 (IntKind.wrap .i64 (y_184 + (1 : Int)))).bind fun l1_186 => (jn (fun p_227 : (List Int) => (letM ((IntKind.wrap .i64 (x_155.2.1 + (1 : Int)))) fun t37_229 => (nx_156 (t11_178,t37_229,l1_186,p_227,l5_177)))) fun k_228 => (loopM (m82_L7 n a0 a1 a2 p_174 l5_177 k_228) n ((0 : Int),x_155.2.2.2.1))))))))))))))) fun k_175 => (loopM (m82_L6 n a0 a1 a2 x_155 k_175) n ((-1 : Int),(0 : Int),(0 : Int)))) else (k_231 (x_155.1,x_155.2.2.1)))
def m82 (n : Nat) (a0 : R24) (a1 : (List Int)) (a2 : (List Int)) (a3_b : (List Int)) : Option (Int × (List Int)) :=
  (if (decide ((a1.length : Int) = (0 : Int))) = true then (some ((0 : Int),a3_b)) else ((getIdx a1 (0 : Int)).bind fun y_1 => ((m102o n ([y_1] : List Int) (a1.length : Int)).bind fun y_2 => ((mk false (a1.length : Int) (a1.length : Int)).bind fun l5_3 => ((getIdx l5_3 (0 : Int)).bind fun y_4 => ((setIdx l5_3 (0 : Int) true).bind fun l5_5 => (letM ((IntKind.wrap .i64 ((a1.length : Int) - (1 : Int)))) fun t36_6 => (jn (fun p_230 : Int × (List Int) => (some (p_230.1,p_230.2))) fun k_231 => (loopM (m82_L5 n a0 a1 a2 t36_6 k_231) n ((0 : Int),(0 : Int),a3_b,y_2,l5_5))))))))))
def m84 (n : Nat) (a0 : Int) (a1 : Int) (a2_b0 : (List R45)) (a2_b1 : (List R93)) (a3_b0 : (List Int)) : Option Int :=
  ((m85 n (R24.mk a2_b0 a2_b1) (0 : Int) a0 a3_b0).bind fun y_1 => ((m85 n (R24.mk a2_b0 a2_b1) (0 : Int) a1 a3_b0).bind fun y_2 => (letM ((IntKind.wrap .i64 (y_1 - y_2))) fun t6_3 => (some t6_3))))
def m111_L4 (n : Nat) (a1 : Int) (a3_0_b0 : (List R45)) (a3_0_b1 : (List R93)) (a3_1_b0 : (List Int)) (k_115 : (List Int) → Option (List Int)) (nx_103 : (Int × (List Int)) → Option (List Int)) (x_102 : (Int × (List Int))) : Option (List Int) :=
  ((gdO (decide (a1 < x_102.1)) (getIdx x_102.2 x_102.1) default).bind fun y_104 => ((gdO (decide (a1 < x_102.1)) (getIdx x_102.2 (IntKind.wrap .i64 (x_102.1 - (1 : Int)))) default).bind fun y_105 => ((gdO (decide (a1 < x_102.1)) (m84 n y_104 y_105 a3_0_b0 a3_0_b1 a3_1_b0) default).bind fun y_106 => (if ((decide (a1 < x_102.1)) && (decide (y_106 < (0 : Int)))) = true then ((getIdx x_102.2 (IntKind.wrap .i64 (x_102.1 - (1 : Int)))).bind fun y_107 => ((getIdx x_102.2 x_102.1).bind fun y_108 => ((getIdx x_102.2 x_102.1).bind fun y_109 => ((setIdx x_102.2 x_102.1 y_107).bind fun l1_110 => ((getIdx l1_110 (IntKind.wrap .i64 (x_102.1 - (1 : Int)))).bind fun y_111 => ((setIdx l1_110 (IntKind.wrap .i64 (x_102.1 - (1 : Int))) y_108).bind fun l1_112 => (letM ((IntKind.wrap .i64 (x_102.1 - (1 : Int)))) fun t9_113 => (nx_103 (t9_113,l1_112))))))))) else (k_115 x_102.2)))))
def m111_L3 (n : Nat) (a1 : Int) (a2 : Int) (a3_0_b0 : (List R45)) (a3_0_b1 : (List R93)) (a3_1_b0 : (List Int)) (k_118 : (List Int) → Option (List Int)) (nx_79 : (Int × (List Int)) → Option (List Int)) (x_78 : (Int × (List Int))) : Option (List Int) :=
  (if (decide (x_78.1 < a2)) = true then (jn (fun p_114 : (List Int) => (letM ((IntKind.wrap .i64 (x_78.1 + (1 : Int)))) fun t8_116 => (nx_79 (t8_116,p_114)))) fun k_115 => (loopM (m111_L4 n a1 a3_0_b0 a3_0_b1 a3_1_b0 k_115) n (x_78.1,x_78.2))) else (k_118 x_78.2))
def m111 (n : Nat) (a0_b : (List Int)) (a1 : Int) (a2 : Int) (a3_0_b0 : (List R45)) (a3_0_b1 : (List R93)) (a3_1_b0 : (List Int)) : Option (List Int) :=
  (letM ((IntKind.wrap .i64 (a1 + (1 : Int)))) fun t8_1 => (jn (fun p_117 : (List Int) => (some p_117)) fun k_118 => (loopM (m111_L3 n a1 a2 a3_0_b0 a3_0_b1 a3_1_b0 k_118) n (t8_1,a0_b))))
def m103_L4 (n : Nat) (a1 : Int) (t8_29 : Int) (k_34 : Int → Option (List Int)) (nx_32 : Int → Option (List Int)) (x_31 : Int) : Option (List Int) :=
  (if (decide (t8_29 ≤ a1)) = true then none else (k_34 x_31))
def m103_L3 (n : Nat) (a1 : Int) (k_38 : Unit → Option (List Int)) (nx_28 : Int → Option (List Int)) (x_27 : Int) : Option (List Int) :=
  (if (decide (x_27 < a1)) = true then (letM ((IntKind.wrap .i64 ((2 : Int) * x_27))) fun t8_29 => (jn (fun p_33 : Int => (letM ((IntKind.wrap .i64 (p_33 + x_27))) fun t9_35 => (if (decide (t9_35 < a1)) = true then none else (letM ((IntKind.wrap .i64 (x_27 * (2 : Int)))) fun t6_36 => (nx_28 t6_36))))) fun k_34 => (loopM (m103_L4 n a1 t8_29 k_34) n (0 : Int)))) else (k_38 ()))
def m103_L1 (n : Nat) (a1 : Int) (a2_0_b0 : (List R45)) (a2_0_b1 : (List R93)) (a2_1_b0 : (List Int)) (k_15 : (Int × (List Int)) → Option (List Int)) (nx_10 : (Int × Int × (List Int)) → Option (List Int)) (x_9 : (Int × Int × (List Int))) : Option (List Int) :=
  (if (decide (x_9.2.1 ≤ a1)) = true then ((m111 n x_9.2.2 x_9.1 x_9.2.1 a2_0_b0 a2_0_b1 a2_1_b0).bind fun y_11 => (asrt (x_9.2.2.length = y_11.length) (letM ((IntKind.wrap .i64 (x_9.2.1 + (20 : Int)))) fun t8_13 => (nx_10 (x_9.2.1,t8_13,y_11))))) else (k_15 (x_9.1,x_9.2.2)))
def m103 (n : Nat) (a0_b : (List Int)) (a1 : Int) (a2_0_b0 : (List R45)) (a2_0_b1 : (List R93)) (a2_1_b0 : (List Int)) : Option (List Int) :=
  (jn (fun p_14 : Int × (List Int) => ((m111 n p_14.2 p_14.1 a1 a2_0_b0 a2_0_b1 a2_1_b0).bind fun y_16 => (asrt (p_14.2.length = y_16.length) (jn (fun p_37 : Unit => (some y_16)) fun k_38 => (loopM (m103_L3 n a1 k_38) n (20 : Int)))))) fun k_15 => (loopM (m103_L1 n a1 a2_0_b0 a2_0_b1 a2_1_b0 k_15) n ((0 : Int),(20 : Int),a0_b)))
def m83 (n : Nat) (a0_b : (List Int)) (a1_0_b0 : (List R45)) (a1_0_b1 : (List R93)) (a1_1_b0 : (List Int)) : Option (List Int) :=
  ((m103 n a0_b (a0_b.length : Int) a1_0_b0 a1_0_b1 a1_1_b0).bind fun y_1 => (asrt (a0_b.length = y_1.length) (some y_1)))
def m49_L3 (n : Nat) (a1 : (List Int)) (k_71 : Int → Option (Int × (List Int))) (nx_66 : (Int × Int) → Option (Int × (List Int))) (x_65 : (Int × Int)) : Option (Int × (List Int)) :=
  (if (decide (x_65.2 < (a1.length : Int))) = true then ((getIdx a1 x_65.2).bind fun y_67 => (letM ((IntKind.wrap .i64 (x_65.1 - (IntKind.wrap .i64 ((2 : Int) * y_67))))) fun t10_68 => (letM ((IntKind.wrap .i64 (x_65.2 + (1 : Int)))) fun t72_69 => (nx_66 (t10_68,t72_69))))) else (k_71 x_65.1))
def m49_L2 (n : Nat) (a0 : R24) (a1 : (List Int)) (l4_20 : (List Int)) (k_56 : (Int × (List Int)) → Option (Int × (List Int))) (nx_44 : (Int × Int × (List Int)) → Option (Int × (List Int))) (x_43 : (Int × Int × (List Int))) : Option (Int × (List Int)) :=
  (if (decide (x_43.2.1 < (l4_20.length : Int))) = true then ((getIdx l4_20 x_43.2.1).bind fun y_45 => ((m85 n (R24.mk a0.Pq a0.Bq) (0 : Int) y_45 a1).bind fun y_46 => (letM ((IntKind.wrap .i64 (x_43.1 + y_46))) fun t10_47 => ((getIdx x_43.2.2 (0 : Int)).bind fun y_48 => ((getIdx x_43.2.2 (0 : Int)).bind fun y_49 => ((setIdx x_43.2.2 (0 : Int) (IntKind.wrap .i64 (y_48 + (1 : Int)))).bind fun l3_50 => ((getIdx l3_50 y_45).bind fun y_51 => ((getIdx l3_50 y_45).bind fun y_52 => ((setIdx l3_50 y_45 (IntKind.wrap .i64 (y_51 + (1 : Int)))).bind fun l3_53 => (letM ((IntKind.wrap .i64 (x_43.2.1 + (1 : Int)))) fun t48_54 => (nx_44 (t10_47,t48_54,l3_53)))))))))))) else (k_56 (x_43.1,x_43.2.2)))
def m49_L1 (n : Nat) (a0 : R24) (k_15 : (List Int) → Option (Int × (List Int))) (nx_11 : (Int × (List Int)) → Option (Int × (List Int))) (x_10 : (Int × (List Int))) : Option (Int × (List Int)) :=
  (if (decide (x_10.1 < (a0.Pq.length : Int))) = true then ((apd x_10.2 ([x_10.1] : List Int)).bind fun l4_12 => (letM ((IntKind.wrap .i64 (x_10.1 + (1 : Int)))) fun t9_13 => (nx_11 (t9_13,l4_12)))) else (k_15 x_10.2))
def m49 (n : Nat) (a0 : R24) (a1 : (List Int)) : Option (Int × (List Int)) :=
  ((mk (0 : Int) (a0.Pq.length : Int) (a0.Pq.length : Int)).bind fun l3_1 => (if (decide ((a0.Pq.length : Int) < (3 : Int))) = true then ((m79 n (R24.mk a0.Pq a0.Bq) (0 : Int) (IntKind.wrap .i64 ((a0.Pq.length : Int) - (1 : Int)))).bind fun y_2 => (letM ((IntKind.wrap .i64 ((2 : Int) * y_2))) fun t4_3 => (some (t4_3,l3_1)))) else (jn (fun p_14 : (List Int) => ((m82 n (R24.mk a0.Pq a0.Bq) p_14 a1 l3_1).bind fun y_16 => (asrt (l3_1.length = y_16.2.length) ((m83 n p_14 a0.Pq a0.Bq a1).bind fun y_18 => (asrt (p_14.length = y_18.length) ((slc y_18 (0 : Int) (2 : Int)).bind fun l4_20 => (jn (fun p_55 : Int × (List Int) => (jn (fun p_70 : Int => (some (p_70,p_55.2))) fun k_71 => (loopM (m49_L3 n a1 k_71) n (p_55.1,(0 : Int))))) fun k_56 => (loopM (m49_L2 n a0 a1 l4_20 k_56) n (y_16.1,(0 : Int),y_16.2))))))))) fun k_15 => (loopM (m49_L1 n a0 k_15) n ((1 : Int),([] : List Int))))))
def m18 (n : Nat) (a0 : R24) (a1 : (List Int)) : Option (Int × Int) :=
  ((m22 n (R24.mk a0.Pq a0.Bq)).bind fun y_1 => (if (!y_1) = true then (some ((0 : Int),(1 : Int))) else ((m48 n (R24.mk a0.Pq a0.Bq) a1).bind fun y_2 => (if (!y_2) = true then (some ((0 : Int),(2 : Int))) else ((m49 n (R24.mk a0.Pq a0.Bq) a1).bind fun y_3 => (some (y_3.1,(0 : Int))))))))
def m17_L1 (n : Nat) (a0 : (List Int)) (a1 : (List Int)) (k_11 : Unit → Option Bool) (nx_6 : Int → Option Bool) (x_5 : Int) : Option Bool :=
  (if (decide (x_5 < (a0.length : Int))) = true then ((getIdx a0 x_5).bind fun y_7 => ((getIdx a1 x_5).bind fun y_8 => (if (!decide (y_7 = y_8)) = true then (some false) else (letM ((IntKind.wrap .i64 (x_5 + (1 : Int)))) fun t5_9 => (nx_6 t5_9))))) else (k_11 ()))
def m17 (n : Nat) (a0 : (List Int)) (a1 : (List Int)) : Option Bool :=
  (if (!decide ((a0.length : Int) = (a1.length : Int))) = true then (some false) else (jn (fun p_10 : Unit => (some true)) fun k_11 => (loopM (m17_L1 n a0 a1 k_11) n (0 : Int))))
def m11 (n : Nat) : Option Bool :=
  ((m13 n (R24.mk ([(R45.mk (0 : Int) (0 : Int)),(R45.mk (4 : Int) (0 : Int)),(R45.mk (4 : Int) (3 : Int)),(R45.mk (0 : Int) (3 : Int))] : List R45) ([] : List R93))).bind fun y_1 => ((mk (0 : Int) (4 : Int) (4 : Int)).bind fun l3_2 => ((m18 n (R24.mk ([(R45.mk (0 : Int) (0 : Int)),(R45.mk (4 : Int) (0 : Int)),(R45.mk (4 : Int) (3 : Int)),(R45.mk (0 : Int) (3 : Int))] : List R45) ([] : List R93)) l3_2).bind fun y_3 => ((gdO ((((decide (y_1.2.2 = (0 : Int))) && (decide (y_3.2 = (0 : Int)))) && (decide (y_1.2.1 = (14 : Int)))) && (decide (y_3.1 = (14 : Int)))) (m17 n y_1.1 ([(0 : Int),(1 : Int),(2 : Int),(3 : Int)] : List Int)) default).bind fun y_4 => ((gdO (((((decide (y_1.2.2 = (0 : Int))) && (decide (y_3.2 = (0 : Int)))) && (decide (y_1.2.1 = (14 : Int)))) && (decide (y_3.1 = (14 : Int)))) && y_4) (m22 n (R24.mk ([(R45.mk (0 : Int) (0 : Int)),(R45.mk (4 : Int) (0 : Int)),(R45.mk (4 : Int) (3 : Int)),(R45.mk (0 : Int) (3 : Int))] : List R45) ([] : List R93))) default).bind fun y_5 => (some ((((((decide (y_1.2.2 = (0 : Int))) && (decide (y_3.2 = (0 : Int)))) && (decide (y_1.2.1 = (14 : Int)))) && (decide (y_3.1 = (14 : Int)))) && y_4) && y_5)))))))
def m12 (n : Nat) (a0 : R24) : Option Bool :=
  (some ((decide ((a0.Pq.length : Int) ≤ (9 : Int))) && (decide ((a0.Bq.length : Int) ≤ (12 : Int)))))
def m14 (n : Nat) (a0 : R24) : Option R24 :=
  (some (R24.mk a0.Pq a0.Bq))
def m25 (n : Nat) (a0 : R52) : Option R57 :=
  ((m14 n (R24.mk a0.Gq.Pq a0.Gq.Bq)).bind fun y_1 => (some (R57.mk (R24.mk y_1.Pq y_1.Bq) a0.Path a0.Ln)))
def m104 (n : Nat) (a0 : R93) (a1_b0_b : (List Int)) (a2_b0 : (List Int)) : Option Bool :=
  ((getIdx a1_b0_b a0.f1).bind fun y_1 => ((gdO (decide (y_1 < (a2_b0.length : Int))) (getIdx a1_b0_b a0.f0) default).bind fun y_2 => ((gdO (decide (y_1 < (a2_b0.length : Int))) (getIdx a1_b0_b a0.f1) default).bind fun y_3 => (some ((decide (y_1 < (a2_b0.length : Int))) && (decide (y_3 ≤ y_2)))))))
def m87x1_L1 (n : Nat) (a0 : (List R93)) (a1_0_b0_b : (List Int)) (a1_1_b0 : (List Int)) (k_11 : Unit → Option Int) (nx_6 : Int → Option Int) (x_5 : Int) : Option Int :=
  (if (decide (x_5 < (a0.length : Int))) = true then ((getIdx a0 x_5).bind fun y_7 => ((m104 n (R93.mk y_7.f0 y_7.f1) a1_0_b0_b a1_1_b0).bind fun y_8 => (if y_8 = true then (some x_5) else (letM ((IntKind.wrap .i64 (x_5 + (1 : Int)))) fun t8_9 => (nx_6 t8_9))))) else (k_11 ()))
def m87x1 (n : Nat) (a0 : (List R93)) (a1_0_b0_b : (List Int)) (a1_1_b0 : (List Int)) : Option Int :=
  (jn (fun p_10 : Unit => (some (-1 : Int))) fun k_11 => (loopM (m87x1_L1 n a0 a1_0_b0_b a1_1_b0 k_11) n (0 : Int)))
def m57x1 (n : Nat) (a0 : (List R93)) (a1_0_b0_b : (List Int)) (a1_1_b0 : (List Int)) : Option Bool :=
  ((m87x1 n a0 a1_0_b0_b a1_1_b0).bind fun y_1 => (some (decide ((0 : Int) ≤ y_1))))
def m88_L1 (n : Nat) (a1 : (List Int)) (k_22 : (List Int) → Option Bool) (nx_15 : (Int × (List Int)) → Option Bool) (x_14 : (Int × (List Int))) : Option Bool :=
  (if (decide (x_14.1 < (a1.length : Int))) = true then ((getIdx a1 x_14.1).bind fun y_16 => ((gdO (!((decide (y_16 < (0 : Int))) || (decide ((x_14.2.length : Int) ≤ y_16)))) (getIdx x_14.2 y_16) default).bind fun y_17 => (if (((decide (y_16 < (0 : Int))) || (decide ((x_14.2.length : Int) ≤ y_16))) || (decide (y_17 < (a1.length : Int)))) = true then (some false) else ((getIdx x_14.2 y_16).bind fun y_18 => ((setIdx x_14.2 y_16 x_14.1).bind fun l4_19 => (letM ((IntKind.wrap .i64 (x_14.1 + (1 : Int)))) fun t18_20 => (nx_15 (t18_20,l4_19)))))))) else (k_22 x_14.2))
def m88 (n : Nat) (a0 : R24) (a1 : (List Int)) : Option Bool :=
  ((m102o n ([(a1.length : Int)] : List Int) (a0.Pq.length : Int)).bind fun y_1 => (jn (fun p_21 : (List Int) => ((gdO (decide ((0 : Int) < (a1.length : Int))) (getIdx a1 (0 : Int)) default).bind fun y_23 => ((gdO ((decide ((0 : Int) < (a1.length : Int))) && (decide (y_23 = (0 : Int)))) (m57x1 n a0.Bq p_21 a1) default).bind fun y_24 => (some (((decide ((0 : Int) < (a1.length : Int))) && (decide (y_23 = (0 : Int)))) && (!y_24)))))) fun k_22 => (loopM (m88_L1 n a1 k_22) n ((0 : Int),y_1))))
def m61 (n : Nat) (a0 : R57) : Option Bool :=
  ((m22 n (R24.mk a0.Gq.Pq a0.Gq.Bq)).bind fun y_1 => ((gdO y_1 (m88 n (R24.mk a0.Gq.Pq a0.Gq.Bq) a0.Path) default).bind fun y_2 => (some (((y_1 && y_2) && (decide ((-1073741824 : Int) ≤ a0.Ln))) && (decide (a0.Ln ≤ (1073741824 : Int)))))))
def m63o (n : Nat) (a0 : (List Int)) : Option (List Int) :=
  ((apd ([] : List Int) a0).bind fun l1_2 => (some l1_2))
def m24_L1 (n : Nat) (a0 : R57) (y_2 : (List Int)) (k_23 : (List R57) → Option ((List R57) × Bool)) (nx_16 : (Int × (List R57)) → Option ((List R57) × Bool)) (x_15 : (Int × (List R57))) : Option ((List R57) × Bool) :=
  (if (decide (x_15.1 < (y_2.length : Int))) = true then ((getIdx y_2 x_15.1).bind fun y_17 => ((m63o n a0.Path).bind fun y_18 => ((apd y_18 ([y_17] : List Int)).bind fun l3_19 => ((apd x_15.2 ([(R57.mk (R24.mk a0.Gq.Pq a0.Gq.Bq) l3_19 a0.Ln)] : List R57)).bind fun l2_20 => (letM ((IntKind.wrap .i64 (x_15.1 + (1 : Int)))) fun t32_21 => (nx_16 (t32_21,l2_20))))))) else (k_23 x_15.2))
def m24 (n : Nat) (a0 : R57) (a1 : Int) : Option ((List R57) × Bool) :=
  ((gdO (!(!decide (a1 = (0 : Int)))) (m61 n (R57.mk (R24.mk a0.Gq.Pq a0.Gq.Bq) a0.Path a0.Ln)) default).bind fun y_1 => (if (((!decide (a1 = (0 : Int))) || (!y_1)) || (decide ((a0.Path.length : Int) = (a0.Gq.Pq.length : Int)))) = true then (some (([] : List R57),false)) else ((m62 n (R24.mk a0.Gq.Pq a0.Gq.Bq) a0.Path).bind fun y_2 => (jn (fun p_22 : (List R57) => (some (p_22,true))) fun k_23 => (loopM (m24_L1 n a0 y_2 k_23) n ((0 : Int),([] : List R57)))))))
def m73_L1 (n : Nat) (a0 : (List Int)) (a1 : Int) (k_9 : Unit → Option Bool) (nx_5 : Int → Option Bool) (x_4 : Int) : Option Bool :=
  (if (decide (x_4 < (a0.length : Int))) = true then ((getIdx a0 x_4).bind fun y_6 => (if (decide (y_6 = a1)) = true then (some true) else (letM ((IntKind.wrap .i64 (x_4 + (1 : Int)))) fun t5_7 => (nx_5 t5_7)))) else (k_9 ()))
def m73 (n : Nat) (a0 : (List Int)) (a1 : Int) : Option Bool :=
  (jn (fun p_8 : Unit => (some false)) fun k_9 => (loopM (m73_L1 n a0 a1 k_9) n (0 : Int)))
def m45_L4 (n : Nat) (a0 : R24) (a1 : (List Int)) (x_49 : Int × (List Int)) (k_69 : Bool → Option (List Int)) (nx_63 : (Bool × Int) → Option (List Int)) (x_62 : (Bool × Int)) : Option (List Int) :=
  (if (decide (x_62.2 < (a0.Bq.length : Int))) = true then ((gdO x_62.1 (getIdx a0.Bq x_62.2) default).bind fun y_64 => ((gdO (x_62.1 && (!(!decide (y_64.f1 = x_49.1)))) (getIdx a0.Bq x_62.2) default).bind fun y_65 => ((gdO (x_62.1 && (!(!decide (y_64.f1 = x_49.1)))) (m73 n a1 y_65.f0) default).bind fun y_66 => (letM ((IntKind.wrap .i64 (x_62.2 + (1 : Int)))) fun t8_67 => (nx_63 ((x_62.1 && ((!decide (y_64.f1 = x_49.1)) || y_66)),t8_67)))))) else (k_69 x_62.1))
def m45_L3 (n : Nat) (a0 : R24) (a1 : (List Int)) (k_75 : (List Int) → Option (List Int)) (nx_50 : (Int × (List Int)) → Option (List Int)) (x_49 : (Int × (List Int))) : Option (List Int) :=
  (if (decide (x_49.1 < (a0.Pq.length : Int))) = true then ((m73 n a1 x_49.1).bind fun y_51 => (jn (fun p_68 : Bool => (jn (fun p_71 : (List Int) => (letM ((IntKind.wrap .i64 (x_49.1 + (1 : Int)))) fun t6_73 => (nx_50 (t6_73,p_71)))) fun k_72 => (if p_68 = true then ((apd x_49.2 ([x_49.1] : List Int)).bind fun l2_70 => (k_72 l2_70)) else (k_72 x_49.2)))) fun k_69 => (loopM (m45_L4 n a0 a1 x_49 k_69) n ((!y_51),(0 : Int))))) else (k_75 x_49.2))
def m45 (n : Nat) (a0 : R24) (a1 : (List Int)) : Option (List Int) :=
  (jn (fun p_74 : (List Int) => (some p_74)) fun k_75 => (loopM (m45_L3 n a0 a1 k_75) n ((0 : Int),([] : List Int))))
def m15_L3 (n : Nat) (a0 : R24) (k_35 : Unit → Option Bool) (nx_30 : (List Int) → Option Bool) (x_29 : (List Int)) : Option Bool :=
  (if (decide ((x_29.length : Int) < (a0.Pq.length : Int))) = true then ((m45 n (R24.mk a0.Pq a0.Bq) x_29).bind fun y_31 => (if (decide ((y_31.length : Int) = (0 : Int))) = true then (some false) else ((getIdx y_31 (0 : Int)).bind fun y_32 => ((apd x_29 ([y_32] : List Int)).bind fun l4_33 => (nx_30 l4_33))))) else (k_35 ()))
def m15_L2 (n : Nat) (a0 : R24) (k_20 : Unit → Option Bool) (nx_15 : Int → Option Bool) (x_14 : Int) : Option Bool :=
  (if (decide (x_14 < (a0.Bq.length : Int))) = true then ((getIdx a0.Bq x_14).bind fun y_16 => (letM ((((((decide (y_16.f0 < (1 : Int))) || (decide ((a0.Pq.length : Int) ≤ y_16.f0))) || (decide (y_16.f1 < (1 : Int)))) || (decide ((a0.Pq.length : Int) ≤ y_16.f1))) || (decide (y_16.f0 = y_16.f1)))) fun t91_17 => (if t91_17 = true then (some false) else (letM ((IntKind.wrap .i64 (x_14 + (1 : Int)))) fun t6_18 => (nx_15 t6_18))))) else (k_20 ()))
def m15_L1 (n : Nat) (a0 : R24) (k_9 : Unit → Option Bool) (nx_5 : Int → Option Bool) (x_4 : Int) : Option Bool :=
  (if (decide (x_4 < (a0.Pq.length : Int))) = true then ((getIdx a0.Pq x_4).bind fun y_6 => (if ((((decide (y_6.X < (-8000 : Int))) || (decide ((8000 : Int) < y_6.X))) || (decide (y_6.Y < (-8000 : Int)))) || (decide ((8000 : Int) < y_6.Y))) = true then (some false) else (letM ((IntKind.wrap .i64 (x_4 + (1 : Int)))) fun t4_7 => (nx_5 t4_7)))) else (k_9 ()))
def m15 (n : Nat) (a0 : R24) : Option Bool :=
  (if (((decide ((a0.Pq.length : Int) < (1 : Int))) || (decide ((60 : Int) < (a0.Pq.length : Int)))) || (decide ((200 : Int) < (a0.Bq.length : Int)))) = true then (some false) else (jn (fun p_8 : Unit => (jn (fun p_19 : Unit => (jn (fun p_34 : Unit => (some true)) fun k_35 => (loopM (m15_L3 n a0 k_35) n ([(0 : Int)] : List Int)))) fun k_20 => (loopM (m15_L2 n a0 k_20) n (0 : Int)))) fun k_9 => (loopM (m15_L1 n a0 k_9) n (0 : Int))))
def m64_L1 (n : Nat) (a0 : R52) (k_18 : Unit → Option Bool) (nx_11 : Int → Option Bool) (x_10 : Int) : Option Bool :=
  (if (decide (x_10 < (a0.Path.length : Int))) = true then ((slc a0.Path (0 : Int) x_10).bind fun s_12 => ((m45 n (R24.mk a0.Gq.Pq a0.Gq.Bq) s_12).bind fun y_13 => ((getIdx a0.Path x_10).bind fun y_14 => ((m73 n y_13 y_14).bind fun y_15 => (if (!y_15) = true then (some false) else (letM ((IntKind.wrap .i64 (x_10 + (1 : Int)))) fun t3_16 => (nx_11 t3_16))))))) else (k_18 ()))
def m64 (n : Nat) (a0 : R52) : Option Bool :=
  ((m15 n (R24.mk a0.Gq.Pq a0.Gq.Bq)).bind fun y_1 => ((gdO (!(((!y_1) || (decide ((a0.Path.length : Int) = (0 : Int)))) || (decide ((a0.Gq.Pq.length : Int) < (a0.Path.length : Int))))) (getIdx a0.Path (0 : Int)) default).bind fun y_2 => (letM (((((((!y_1) || (decide ((a0.Path.length : Int) = (0 : Int)))) || (decide ((a0.Gq.Pq.length : Int) < (a0.Path.length : Int)))) || (!decide (y_2 = (0 : Int)))) || (decide (a0.Ln < (-1073741824 : Int)))) || (decide ((1073741824 : Int) < a0.Ln)))) fun t40_3 => (if t40_3 = true then (some false) else (jn (fun p_17 : Unit => (some true)) fun k_18 => (loopM (m64_L1 n a0 k_18) n (1 : Int)))))))
def m26_L1 (n : Nat) (a0 : R52) (y_2 : (List Int)) (k_23 : (List R52) → Option ((List R52) × Bool)) (nx_16 : (Int × (List R52)) → Option ((List R52) × Bool)) (x_15 : (Int × (List R52))) : Option ((List R52) × Bool) :=
  (if (decide (x_15.1 < (y_2.length : Int))) = true then ((apd ([] : List Int) a0.Path).bind fun l3_17 => ((getIdx y_2 x_15.1).bind fun y_18 => ((apd l3_17 ([y_18] : List Int)).bind fun l3_19 => ((apd x_15.2 ([(R52.mk (R24.mk a0.Gq.Pq a0.Gq.Bq) l3_19 a0.Ln)] : List R52)).bind fun l2_20 => (letM ((IntKind.wrap .i64 (x_15.1 + (1 : Int)))) fun t8_21 => (nx_16 (t8_21,l2_20))))))) else (k_23 x_15.2))
def m26 (n : Nat) (a0 : R52) (a1 : Int) : Option ((List R52) × Bool) :=
  ((m64 n (R52.mk (R24.mk a0.Gq.Pq a0.Gq.Bq) a0.Path a0.Ln)).bind fun y_1 => (if (((!y_1) || (!decide (a1 = (0 : Int)))) || (decide ((a0.Path.length : Int) = (a0.Gq.Pq.length : Int)))) = true then (some (([] : List R52),false)) else ((m45 n (R24.mk a0.Gq.Pq a0.Gq.Bq) a0.Path).bind fun y_2 => (jn (fun p_22 : (List R52) => (some (p_22,true))) fun k_23 => (loopM (m26_L1 n a0 y_2 k_23) n ((0 : Int),([] : List R52)))))))
def m90_L1 (n : Nat) (a0 : R24) (a1 : (List Int)) (k_15 : Int → Option Int) (nx_8 : (Int × Int) → Option Int) (x_7 : (Int × Int)) : Option Int :=
  (if (decide (x_7.2 < (a1.length : Int))) = true then ((getIdx a1 (IntKind.wrap .i64 (x_7.2 - (1 : Int)))).bind fun y_9 => ((getIdx a1 x_7.2).bind fun y_10 => ((m79 n (R24.mk a0.Pq a0.Bq) y_9 y_10).bind fun y_11 => (letM ((IntKind.wrap .i64 (x_7.1 + y_11))) fun t5_12 => (letM ((IntKind.wrap .i64 (x_7.2 + (1 : Int)))) fun t6_13 => (nx_8 (t5_12,t6_13))))))) else (k_15 x_7.1))
def m90 (n : Nat) (a0 : R24) (a1 : (List Int)) : Option Int :=
  (jn (fun p_14 : Int => (some p_14)) fun k_15 => (loopM (m90_L1 n a0 a1 k_15) n ((0 : Int),(1 : Int))))
def m68 (n : Nat) (a0 : R24) (a1 : (List Int)) : Option Int :=
  ((m90 n (R24.mk a0.Pq a0.Bq) a1).bind fun y_1 => ((getIdx a1 (IntKind.wrap .i64 ((a1.length : Int) - (1 : Int)))).bind fun y_2 => ((m79 n (R24.mk a0.Pq a0.Bq) y_2 (0 : Int)).bind fun y_3 => (letM ((IntKind.wrap .i64 (y_1 + y_3))) fun t4_4 => (some t4_4)))))
def m105_L1 (n : Nat) (a0 : (List Int)) (a1 : Int) (k_9 : Unit → Option Int) (nx_5 : Int → Option Int) (x_4 : Int) : Option Int :=
  (if (decide (x_4 < (a0.length : Int))) = true then ((getIdx a0 x_4).bind fun y_6 => (if (decide (a1 = y_6)) = true then (some x_4) else (letM ((IntKind.wrap .i64 (x_4 + (1 : Int)))) fun t8_7 => (nx_5 t8_7)))) else (k_9 ()))
def m105 (n : Nat) (a0 : (List Int)) (a1 : Int) : Option Int :=
  (jn (fun p_8 : Unit => (some (-1 : Int))) fun k_9 => (loopM (m105_L1 n a0 a1 k_9) n (0 : Int)))
def m91 (n : Nat) (a0 : (List Int)) (a1 : Int) : Option Bool :=
  ((m105 n a0 a1).bind fun y_1 => (some (decide ((0 : Int) ≤ y_1))))
def m65_L1 (n : Nat) (a0 : R57) (a1 : (List Int)) (t63_9 : Int) (k_36 : (Int × (List Int)) → Option Int) (nx_27 : (Int × Int × (List Int)) → Option Int) (x_26 : (Int × Int × (List Int))) : Option Int :=
  (if (decide (x_26.2.1 < t63_9)) = true then ((m91 n a0.Path x_26.2.1).bind fun y_28 => (jn (fun p_32 : Int × (List Int) => (letM ((IntKind.wrap .i64 (x_26.2.1 + (1 : Int)))) fun t64_34 => (nx_27 (p_32.1,t64_34,p_32.2)))) fun k_33 => (if (!y_28) = true then ((apd x_26.2.2 ([x_26.2.1] : List Int)).bind fun l3_29 => ((getIdx a1 x_26.2.1).bind fun y_30 => (letM ((IntKind.wrap .i64 (x_26.1 - (IntKind.wrap .i64 ((2 : Int) * y_30))))) fun t10_31 => (k_33 (t10_31,l3_29))))) else (k_33 (x_26.1,x_26.2.2))))) else (k_36 (x_26.1,x_26.2.2)))
def m65 (n : Nat) (a0 : R57) (a1 : (List Int)) : Option Int :=
  (if (decide ((a0.Path.length : Int) = (a0.Gq.Pq.length : Int))) = true then ((m68 n (R24.mk a0.Gq.Pq a0.Gq.Bq) a0.Path).bind fun y_1 => (some y_1)) else (if (decide ((a0.Path.length : Int) = (1 : Int))) = true then ((m49 n (R24.mk a0.Gq.Pq a0.Gq.Bq) a1).bind fun y_2 => (some y_2.1)) else ((getIdx a0.Path (IntKind.wrap .i64 ((a0.Path.length : Int) - (1 : Int)))).bind fun y_3 => (letM (([y_3,(0 : Int)] : List Int)) fun l3_4 => ((m90 n (R24.mk a0.Gq.Pq a0.Gq.Bq) a0.Path).bind fun y_5 => ((getIdx a1 y_3).bind fun y_6 => ((getIdx a1 (0 : Int)).bind fun y_7 => (letM ((IntKind.wrap .i64 ((IntKind.wrap .i64 (y_5 - y_6)) - y_7))) fun t10_8 => (letM ((a0.Gq.Pq.length : Int)) fun t63_9 => (jn (fun p_35 : Int × (List Int) => ((mk (0 : Int) (a0.Gq.Pq.length : Int) (a0.Gq.Pq.length : Int)).bind fun l5_37 => ((m82 n (R24.mk a0.Gq.Pq a0.Gq.Bq) p_35.2 a1 l5_37).bind fun y_38 => (asrt (l5_37.length = y_38.2.length) (letM ((IntKind.wrap .i64 (p_35.1 + y_38.1))) fun t4_40 => (some t4_40)))))) fun k_36 => (loopM (m65_L1 n a0 a1 t63_9 k_36) n (t10_8,(0 : Int),l3_4))))))))))))
def m27 (n : Nat) (a0 : R57) (a1 : (List Int)) : Option Bool :=
  ((m61 n (R57.mk (R24.mk a0.Gq.Pq a0.Gq.Bq) a0.Path a0.Ln)).bind fun y_1 => ((gdO y_1 (m48 n (R24.mk a0.Gq.Pq a0.Gq.Bq) a1) default).bind fun y_2 => ((gdO (y_1 && y_2) (m65 n (R57.mk (R24.mk a0.Gq.Pq a0.Gq.Bq) a0.Path a0.Ln) a1) default).bind fun y_3 => (some ((y_1 && y_2) && (decide (a0.Ln ≤ y_3)))))))
def m50_L1 (n : Nat) (a1 : (List Int)) (k_11 : Unit → Option Bool) (nx_6 : Int → Option Bool) (x_5 : Int) : Option Bool :=
  (if (decide (x_5 < (a1.length : Int))) = true then ((getIdx a1 x_5).bind fun y_7 => ((gdO (!(decide (y_7 < (-20000 : Int)))) (getIdx a1 x_5) default).bind fun y_8 => (if ((decide (y_7 < (-20000 : Int))) || (decide ((20000 : Int) < y_8))) = true then (some false) else (letM ((IntKind.wrap .i64 (x_5 + (1 : Int)))) fun t5_9 => (nx_6 t5_9))))) else (k_11 ()))
def m50 (n : Nat) (a0 : R24) (a1 : (List Int)) : Option Bool :=
  (jn (fun p_10 : Unit => (some (decide ((a1.length : Int) = (a0.Pq.length : Int))))) fun k_11 => (loopM (m50_L1 n a1 k_11) n (0 : Int)))
def m36 (n : Nat) (a0 : R45) (a1 : R45) : Option Int :=
  (letM ((if (IntKind.wrap .i64 (a1.Y - a0.Y)) > (if (IntKind.wrap .i64 (a0.Y - a1.Y)) > (if (IntKind.wrap .i64 (a1.X - a0.X)) > (IntKind.wrap .i64 (a0.X - a1.X)) then (IntKind.wrap .i64 (a1.X - a0.X)) else (IntKind.wrap .i64 (a0.X - a1.X))) then (IntKind.wrap .i64 (a0.Y - a1.Y)) else (if (IntKind.wrap .i64 (a1.X - a0.X)) > (IntKind.wrap .i64 (a0.X - a1.X)) then (IntKind.wrap .i64 (a1.X - a0.X)) else (IntKind.wrap .i64 (a0.X - a1.X)))) then (IntKind.wrap .i64 (a1.Y - a0.Y)) else (if (IntKind.wrap .i64 (a0.Y - a1.Y)) > (if (IntKind.wrap .i64 (a1.X - a0.X)) > (IntKind.wrap .i64 (a0.X - a1.X)) then (IntKind.wrap .i64 (a1.X - a0.X)) else (IntKind.wrap .i64 (a0.X - a1.X))) then (IntKind.wrap .i64 (a0.Y - a1.Y)) else (if (IntKind.wrap .i64 (a1.X - a0.X)) > (IntKind.wrap .i64 (a0.X - a1.X)) then (IntKind.wrap .i64 (a1.X - a0.X)) else (IntKind.wrap .i64 (a0.X - a1.X)))))) fun t4_1 => (some t4_1))
def m53_L1 (n : Nat) (a0 : R24) (a1 : (List Int)) (k_19 : Int → Option Int) (nx_10 : (Int × Int) → Option Int) (x_9 : (Int × Int)) : Option Int :=
  (if (decide (x_9.2 < (a1.length : Int))) = true then ((getIdx a1 (IntKind.wrap .i64 (x_9.2 - (1 : Int)))).bind fun y_11 => ((getIdx a0.Pq y_11).bind fun y_12 => ((getIdx a1 x_9.2).bind fun y_13 => ((getIdx a0.Pq y_13).bind fun y_14 => ((m36 n (R45.mk y_12.X y_12.Y) (R45.mk y_14.X y_14.Y)).bind fun y_15 => (letM ((IntKind.wrap .i64 (x_9.1 + y_15))) fun t5_16 => (letM ((IntKind.wrap .i64 (x_9.2 + (1 : Int)))) fun t6_17 => (nx_10 (t5_16,t6_17))))))))) else (k_19 x_9.1))
def m53 (n : Nat) (a0 : R24) (a1 : (List Int)) : Option Int :=
  (jn (fun p_18 : Int => (some p_18)) fun k_19 => (loopM (m53_L1 n a0 a1 k_19) n ((0 : Int),(1 : Int))))
def m20 (n : Nat) (a0 : R24) (a1 : (List Int)) : Option Int :=
  ((m53 n (R24.mk a0.Pq a0.Bq) a1).bind fun y_1 => ((getIdx a1 (IntKind.wrap .i64 ((a1.length : Int) - (1 : Int)))).bind fun y_2 => ((getIdx a0.Pq y_2).bind fun y_3 => ((getIdx a0.Pq (0 : Int)).bind fun y_4 => ((m36 n (R45.mk y_3.X y_3.Y) (R45.mk y_4.X y_4.Y)).bind fun y_5 => (letM ((IntKind.wrap .i64 (y_1 + y_5))) fun t4_6 => (some t4_6)))))))
def m51 (n : Nat) (a0 : R24) (a1 : (List Int)) (a2 : Int) (a3 : Int) : Option Int :=
  ((getIdx a0.Pq a2).bind fun y_1 => ((getIdx a0.Pq a3).bind fun y_2 => ((m36 n (R45.mk y_1.X y_1.Y) (R45.mk y_2.X y_2.Y)).bind fun y_3 => ((getIdx a1 a2).bind fun y_4 => ((getIdx a1 a3).bind fun y_5 => (letM ((IntKind.wrap .i64 ((IntKind.wrap .i64 (y_3 + y_4)) + y_5))) fun t8_6 => (some t8_6)))))))
def m52_L13 (n : Nat) (a0 : R24) (a1 : (List Int)) (a2 : (List Int)) (x_223 : Int × (List Int)) (x_293 : Int × Int × Bool × Int) (k_327 : (Int × Int × Bool) → Option Int) (nx_316 : (Int × Int × Bool × Int) → Option Int) (x_315 : (Int × Int × Bool × Int)) : Option Int :=
  ((gdO (decide (x_315.2.2.2 < (x_223.2.length : Int))) (getIdx a2 x_293.2.2.2) default).bind fun y_317 => ((gdO (decide (x_315.2.2.2 < (x_223.2.length : Int))) (m73 n x_223.2 y_317) default).bind fun y_318 => (if ((decide (x_315.2.2.2 < (x_223.2.length : Int))) && (!y_318)) = true then ((getIdx a2 x_293.2.2.2).bind fun y_319 => ((getIdx x_223.2 x_315.2.2.2).bind fun y_320 => ((m51 n (R24.mk a0.Pq a0.Bq) a1 y_319 y_320).bind fun y_321 => (jn (fun p_323 : Int × Int × Bool => (letM ((IntKind.wrap .i64 (x_315.2.2.2 + (1 : Int)))) fun t13_325 => (nx_316 (p_323.1,p_323.2.1,p_323.2.2,t13_325)))) fun k_324 => (if (x_315.2.2.1 || (decide (y_321 < x_315.1))) = true then ((getIdx a2 x_293.2.2.2).bind fun y_322 => (k_324 (y_321,y_322,false))) else (k_324 (x_315.1,x_315.2.1,x_315.2.2.1))))))) else (k_327 (x_315.1,x_315.2.1,x_315.2.2.1)))))
def m52_L12 (n : Nat) (a0 : R24) (a1 : (List Int)) (a2 : (List Int)) (x_223 : Int × (List Int)) (k_330 : (Int × Int) → Option Int) (nx_294 : (Int × Int × Bool × Int) → Option Int) (x_293 : (Int × Int × Bool × Int)) : Option Int :=
  (if (decide (x_293.2.2.2 < (a2.length : Int))) = true then (jn (fun p_326 : Int × Int × Bool => (letM ((IntKind.wrap .i64 (x_293.2.2.2 + (1 : Int)))) fun t12_328 => (nx_294 (p_326.1,p_326.2.1,p_326.2.2,t12_328)))) fun k_327 => (loopM (m52_L13 n a0 a1 a2 x_223 x_293 k_327) n (x_293.1,x_293.2.1,x_293.2.2.1,(0 : Int)))) else (k_330 (x_293.1,x_293.2.1)))
def m52_L9 (n : Nat) (a0 : R24) (a1 : (List Int)) (a2 : (List Int)) (k_334 : Int → Option Int) (nx_224 : (Int × (List Int)) → Option Int) (x_223 : (Int × (List Int))) : Option Int :=
  (if (decide ((x_223.2.length : Int) < (a2.length : Int))) = true then (jn (fun p_329 : Int × Int => (letM ((IntKind.wrap .i64 (x_223.1 + p_329.1))) fun t8_331 => ((apd x_223.2 ([p_329.2] : List Int)).bind fun l2_332 => (nx_224 (t8_331,l2_332))))) fun k_330 => (loopM (m52_L12 n a0 a1 a2 x_223 k_330) n ((0 : Int),(0 : Int),true,(0 : Int)))) else (k_334 x_223.1))
def m52 (n : Nat) (a0 : R24) (a1 : (List Int)) (a2 : (List Int)) : Option Int :=
  (jn (fun p_3 : (List Int) => (jn (fun p_333 : Int => (some p_333)) fun k_334 => (loopM (m52_L9 n a0 a1 a2 k_334) n ((0 : Int),p_3)))) fun k_4 => (if (decide ((0 : Int) < (a2.length : Int))) = true then ((getIdx a2 (0 : Int)).bind fun y_1 => ((apd ([] : List Int) ([y_1] : List Int)).bind fun l2_2 => (k_4 l2_2))) else (k_4 ([] : List Int))))
def m19_L2 (n : Nat) (a0 : R24) (a1 : (List Int)) (k_60 : Int → Option (Int × Int)) (nx_55 : (Int × Int) → Option (Int × Int)) (x_54 : (Int × Int)) : Option (Int × Int) :=
  (if (decide (x_54.2 < (a0.Pq.length : Int))) = true then ((getIdx a1 x_54.2).bind fun y_56 => (letM ((IntKind.wrap .i64 (x_54.1 + y_56))) fun t10_57 => (letM ((IntKind.wrap .i64 (x_54.2 + (1 : Int)))) fun t13_58 => (nx_55 (t10_57,t13_58))))) else (k_60 x_54.1))
def m19_L1 (n : Nat) (a0 : R24) (a1 : (List Int)) (k_49 : (Int × Int × (List Int)) → Option (Int × Int)) (nx_36 : (Int × Int × Int × (List Int)) → Option (Int × Int)) (x_35 : (Int × Int × Int × (List Int))) : Option (Int × Int) :=
  (if (decide (x_35.2.2.1 < (a0.Pq.length : Int))) = true then ((apd x_35.2.2.2 ([x_35.2.2.1] : List Int)).bind fun l2_37 => ((m51 n (R24.mk a0.Pq a0.Bq) a1 (0 : Int) x_35.2.2.1).bind fun y_38 => (jn (fun p_45 : Int × Int => (letM ((IntKind.wrap .i64 (x_35.2.2.1 + (1 : Int)))) fun t11_47 => (nx_36 (p_45.1,p_45.2,t11_47,l2_37)))) fun k_46 => (if (decide (x_35.2.2.1 < (3 : Int))) = true then (k_46 (x_35.1,x_35.2.1)) else ((m51 n (R24.mk a0.Pq a0.Bq) a1 (0 : Int) x_35.1).bind fun y_39 => (jn (fun p_43 : Int × Int => (k_46 (p_43.1,p_43.2))) fun k_44 => (if (decide (y_38 < y_39)) = true then (k_44 (x_35.2.2.1,x_35.1)) else ((m51 n (R24.mk a0.Pq a0.Bq) a1 (0 : Int) x_35.2.1).bind fun y_40 => (jn (fun p_41 : Int => (k_44 (x_35.1,p_41))) fun k_42 => (if (decide (y_38 < y_40)) = true then (k_42 x_35.2.2.1) else (k_42 x_35.2.1))))))))))) else (k_49 (x_35.1,x_35.2.1,x_35.2.2.2)))
def m19 (n : Nat) (a0 : R24) (a1 : (List Int)) : Option (Int × Int) :=
  ((m15 n (R24.mk a0.Pq a0.Bq)).bind fun y_1 => (if (!y_1) = true then (some ((0 : Int),(1 : Int))) else ((m50 n (R24.mk a0.Pq a0.Bq) a1).bind fun y_2 => (if (!y_2) = true then (some ((0 : Int),(2 : Int))) else (if (decide ((a0.Pq.length : Int) < (3 : Int))) = true then ((getIdx a0.Pq (0 : Int)).bind fun y_3 => ((getIdx a0.Pq (IntKind.wrap .i64 ((a0.Pq.length : Int) - (1 : Int)))).bind fun y_4 => ((m36 n (R45.mk y_3.X y_3.Y) (R45.mk y_4.X y_4.Y)).bind fun y_5 => (letM ((IntKind.wrap .i64 ((2 : Int) * y_5))) fun t4_6 => (some (t4_6,(0 : Int))))))) else ((m51 n (R24.mk a0.Pq a0.Bq) a1 (0 : Int) (2 : Int)).bind fun y_7 => ((m51 n (R24.mk a0.Pq a0.Bq) a1 (0 : Int) (1 : Int)).bind fun y_8 => (jn (fun p_9 : Int × Int => (jn (fun p_48 : Int × Int × (List Int) => (jn (fun p_59 : Int => ((m52 n (R24.mk a0.Pq a0.Bq) a1 p_48.2.2).bind fun y_61 => ((m51 n (R24.mk a0.Pq a0.Bq) a1 (0 : Int) p_48.1).bind fun y_62 => ((m51 n (R24.mk a0.Pq a0.Bq) a1 (0 : Int) p_48.2.1).bind fun y_63 => (letM ((IntKind.wrap .i64 ((IntKind.wrap .i64 ((IntKind.wrap .i64 (y_61 + y_62)) + y_63)) - (IntKind.wrap .i64 ((2 : Int) * p_59))))) fun t4_64 => (some (t4_64,(0 : Int)))))))) fun k_60 => (loopM (m19_L2 n a0 a1 k_60) n ((0 : Int),(0 : Int))))) fun k_49 => (loopM (m19_L1 n a0 a1 k_49) n (p_9.1,p_9.2,(1 : Int),([] : List Int))))) fun k_10 => (if (decide (y_7 < y_8)) = true then (k_10 ((2 : Int),(1 : Int))) else (k_10 ((1 : Int),(2 : Int))))))))))))
def m66_L1 (n : Nat) (a0 : R52) (a1 : (List Int)) (k_34 : (Int × (List Int)) → Option Int) (nx_25 : (Int × Int × (List Int)) → Option Int) (x_24 : (Int × Int × (List Int))) : Option Int :=
  (if (decide (x_24.2.1 < (a0.Gq.Pq.length : Int))) = true then ((m73 n a0.Path x_24.2.1).bind fun y_26 => (jn (fun p_30 : Int × (List Int) => (letM ((IntKind.wrap .i64 (x_24.2.1 + (1 : Int)))) fun t11_32 => (nx_25 (p_30.1,t11_32,p_30.2)))) fun k_31 => (if (!y_26) = true then ((apd x_24.2.2 ([x_24.2.1] : List Int)).bind fun l3_27 => ((getIdx a1 x_24.2.1).bind fun y_28 => (letM ((IntKind.wrap .i64 (x_24.1 + (IntKind.wrap .i64 ((2 : Int) * y_28))))) fun t10_29 => (k_31 (t10_29,l3_27))))) else (k_31 (x_24.1,x_24.2.2))))) else (k_34 (x_24.1,x_24.2.2)))
def m66 (n : Nat) (a0 : R52) (a1 : (List Int)) : Option Int :=
  (if (decide ((a0.Path.length : Int) = (a0.Gq.Pq.length : Int))) = true then ((m20 n (R24.mk a0.Gq.Pq a0.Gq.Bq) a0.Path).bind fun y_1 => (some y_1)) else (if (decide ((a0.Path.length : Int) = (1 : Int))) = true then ((m19 n (R24.mk a0.Gq.Pq a0.Gq.Bq) a1).bind fun y_2 => (some y_2.1)) else ((getIdx a0.Path (IntKind.wrap .i64 ((a0.Path.length : Int) - (1 : Int)))).bind fun y_3 => (letM (([y_3,(0 : Int)] : List Int)) fun l3_4 => ((getIdx a1 y_3).bind fun y_5 => ((getIdx a1 (0 : Int)).bind fun y_6 => (letM ((IntKind.wrap .i64 (y_5 + y_6))) fun t10_7 => (jn (fun p_33 : Int × (List Int) => ((m53 n (R24.mk a0.Gq.Pq a0.Gq.Bq) a0.Path).bind fun y_35 => ((m52 n (R24.mk a0.Gq.Pq a0.Gq.Bq) a1 p_33.2).bind fun y_36 => (letM ((IntKind.wrap .i64 ((IntKind.wrap .i64 (y_35 + y_36)) - p_33.1))) fun t4_37 => (some t4_37))))) fun k_34 => (loopM (m66_L1 n a0 a1 k_34) n (t10_7,(0 : Int),l3_4))))))))))
def m28 (n : Nat) (a0 : R52) (a1 : (List Int)) : Option Bool :=
  ((m64 n (R52.mk (R24.mk a0.Gq.Pq a0.Gq.Bq) a0.Path a0.Ln)).bind fun y_1 => ((gdO y_1 (m50 n (R24.mk a0.Gq.Pq a0.Gq.Bq) a1) default).bind fun y_2 => ((gdO (y_1 && y_2) (m66 n (R52.mk (R24.mk a0.Gq.Pq a0.Gq.Bq) a0.Path a0.Ln) a1) default).bind fun y_3 => (some ((y_1 && y_2) && (decide (a0.Ln ≤ y_3)))))))
def m67 (n : Nat) (a0 : R24) (a1 : (List Int)) : Option Bool :=
  ((gdO (decide ((a1.length : Int) = (a0.Pq.length : Int))) (m88 n (R24.mk a0.Pq a0.Bq) a1) default).bind fun y_1 => (some ((decide ((a1.length : Int) = (a0.Pq.length : Int))) && y_1)))
def m29 (n : Nat) (a0 : R24) (a1 : (List Int)) : Option (Int × Int) :=
  ((m22 n (R24.mk a0.Pq a0.Bq)).bind fun y_1 => (if (!y_1) = true then (some ((0 : Int),(1 : Int))) else ((m67 n (R24.mk a0.Pq a0.Bq) a1).bind fun y_2 => (if (!y_2) = true then (some ((0 : Int),(22 : Int))) else ((m68 n (R24.mk a0.Pq a0.Bq) a1).bind fun y_3 => (some (y_3,(0 : Int))))))))
def m37_L1 (n : Nat) (a0 : R24) (a1 : (List Int)) (k_16 : Unit → Option Bool) (nx_9 : Int → Option Bool) (x_8 : Int) : Option Bool :=
  (if (decide (x_8 < (a1.length : Int))) = true then ((slc a1 (0 : Int) x_8).bind fun s_10 => ((m45 n (R24.mk a0.Pq a0.Bq) s_10).bind fun y_11 => ((getIdx a1 x_8).bind fun y_12 => ((m73 n y_11 y_12).bind fun y_13 => (if (!y_13) = true then (some false) else (letM ((IntKind.wrap .i64 (x_8 + (1 : Int)))) fun t5_14 => (nx_9 t5_14))))))) else (k_16 ()))
def m37 (n : Nat) (a0 : R24) (a1 : (List Int)) : Option Bool :=
  ((gdO (!(!decide ((a1.length : Int) = (a0.Pq.length : Int)))) (getIdx a1 (0 : Int)) default).bind fun y_1 => (if ((!decide ((a1.length : Int) = (a0.Pq.length : Int))) || (!decide (y_1 = (0 : Int)))) = true then (some false) else (jn (fun p_15 : Unit => (some true)) fun k_16 => (loopM (m37_L1 n a0 a1 k_16) n (1 : Int)))))
def m30 (n : Nat) (a0 : R24) (a1 : (List Int)) : Option (Int × Int) :=
  ((m15 n (R24.mk a0.Pq a0.Bq)).bind fun y_1 => (if (!y_1) = true then (some ((0 : Int),(1 : Int))) else ((m37 n (R24.mk a0.Pq a0.Bq) a1).bind fun y_2 => (if (!y_2) = true then (some ((0 : Int),(22 : Int))) else ((m20 n (R24.mk a0.Pq a0.Bq) a1).bind fun y_3 => (some (y_3,(0 : Int))))))))
def m47_L1 (n : Nat) (a0 : R24) (a1 : (List Int)) (rc_0 : R24 → (List Int) → (List Int) → Option (List Int)) (y_4 : (List Int)) (k_25 : (List Int) → Option (List Int)) (nx_18 : ((List Int) × Int) → Option (List Int)) (x_17 : ((List Int) × Int)) : Option (List Int) :=
  (if (decide (x_17.2 < (y_4.length : Int))) = true then ((apd ([] : List Int) a1).bind fun l3_19 => ((getIdx y_4 x_17.2).bind fun y_20 => ((apd l3_19 ([y_20] : List Int)).bind fun l3_21 => ((rc_0 (R24.mk a0.Pq a0.Bq) l3_21 x_17.1).bind fun y_22 => (letM ((IntKind.wrap .i64 (x_17.2 + (1 : Int)))) fun t8_23 => (nx_18 (y_22,t8_23))))))) else (k_25 x_17.1))
def m47B (n : Nat) (rc_0 : R24 → (List Int) → (List Int) → Option (List Int)) (a0 : R24) (a1 : (List Int)) (a2 : (List Int)) : Option (List Int) :=
  (if (decide ((a1.length : Int) = (a0.Pq.length : Int))) = true then ((gdO (!(decide ((a2.length : Int) = (0 : Int)))) (m20 n (R24.mk a0.Pq a0.Bq) a1) default).bind fun y_1 => ((gdO (!(decide ((a2.length : Int) = (0 : Int)))) (m20 n (R24.mk a0.Pq a0.Bq) a2) default).bind fun y_2 => (if ((decide ((a2.length : Int) = (0 : Int))) || (decide (y_1 < y_2))) = true then ((apd ([] : List Int) a1).bind fun l2_3 => (some l2_3)) else (some a2)))) else ((m45 n (R24.mk a0.Pq a0.Bq) a1).bind fun y_4 => (jn (fun p_24 : (List Int) => (some p_24)) fun k_25 => (loopM (m47_L1 n a0 a1 rc_0 y_4 k_25) n (a2,(0 : Int))))))
def m47F (n : Nat) : Nat → R24 → (List Int) → (List Int) → Option (List Int)
  | 0 => fun _ _ _ => none
  | f + 1 => m47B n (m47F n f)
def m47 (n : Nat) (a0 : R24) (a1 : (List Int)) (a2 : (List Int)) : Option (List Int) := m47F n n a0 a1 a2
def m16 (n : Nat) (a0 : R24) : Option ((List Int) × Int × Int) :=
  ((m15 n (R24.mk a0.Pq a0.Bq)).bind fun y_1 => (if (!y_1) = true then (some (([] : List Int),(0 : Int),(1 : Int))) else (if (decide ((8 : Int) < (a0.Pq.length : Int))) = true then (some (([] : List Int),(0 : Int),(9 : Int))) else ((m47 n (R24.mk a0.Pq a0.Bq) ([(0 : Int)] : List Int) ([] : List Int)).bind fun y_2 => ((m20 n (R24.mk a0.Pq a0.Bq) y_2).bind fun y_3 => (some (y_2,y_3,(0 : Int))))))))
def m3 (n : Nat) (a0 : R24) : Option Bool :=
  ((m11 n).bind fun y_1 => ((gdO (!(!y_1)) (m12 n (R24.mk a0.Pq a0.Bq)) default).bind fun y_2 => (if ((!y_1) || (!y_2)) = true then ((m11 n).bind fun y_3 => (some y_3)) else ((m14 n (R24.mk a0.Pq a0.Bq)).bind fun y_4 => ((m13 n (R24.mk y_4.Pq y_4.Bq)).bind fun y_5 => (if (decide ((6 : Int) < (a0.Pq.length : Int))) = true then ((gdO ((!((decide ((a0.Pq.length : Int) ≤ (8 : Int))) || (decide (y_5.2.2 = (9 : Int))))) && (decide (y_5.2.2 = (1 : Int)))) (m15 n (R24.mk a0.Pq a0.Bq)) default).bind fun y_6 => (some (((decide ((a0.Pq.length : Int) ≤ (8 : Int))) || (decide (y_5.2.2 = (9 : Int)))) || ((decide (y_5.2.2 = (1 : Int))) && (!y_6))))) else ((m16 n (R24.mk a0.Pq a0.Bq)).bind fun y_7 => ((m17 n y_5.1 y_7.1).bind fun y_8 => (some ((y_8 && (decide (y_5.2.1 = y_7.2.1))) && (decide (y_5.2.2 = y_7.2.2))))))))))))
def m38 (n : Nat) (a0 : R24) : Option Bool :=
  (some ((decide ((a0.Pq.length : Int) ≤ (6 : Int))) && (decide ((a0.Bq.length : Int) ≤ (12 : Int)))))
def m74_L1 (n : Nat) (a0 : R74) (rc_0 : R74 → Option Int) (k_13 : Int → Option Int) (nx_7 : (Int × Int) → Option Int) (x_6 : (Int × Int)) : Option Int :=
  (if (decide (x_6.2 < (a0.Kd.length : Int))) = true then ((getIdx a0.Kd x_6.2).bind fun y_8 => ((rc_0 (R74.mk y_8.out.Split y_8.out.Kd y_8.out.Lf)).bind fun y_9 => (letM ((IntKind.wrap .i64 (x_6.1 + y_9))) fun t3_10 => (letM ((IntKind.wrap .i64 (x_6.2 + (1 : Int)))) fun t4_11 => (nx_7 (t3_10,t4_11)))))) else (k_13 x_6.1))
def m74B (n : Nat) (rc_0 : R74 → Option Int) (a0 : R74) : Option Int :=
  (jn (fun p_12 : Int => (some p_12)) fun k_13 => (loopM (m74_L1 n a0 rc_0 k_13) n ((1 : Int),(0 : Int))))
def m74F (n : Nat) : Nat → R74 → Option Int
  | 0 => fun _ => none
  | f + 1 => m74B n (m74F n f)
def m74 (n : Nat) (a0 : R74) : Option Int := m74F n n a0
def m39 (n : Nat) (a0 : R74) : Option Bool :=
  ((m74 n (R74.mk a0.Split a0.Kd a0.Lf)).bind fun y_1 => (some (decide (y_1 ≤ (300 : Int)))))
def m41_L1 (n : Nat) (a0 : R74) (rc_0 : R74 → Option R79) (k_18 : (List K79) → Option R79) (nx_12 : (Int × (List K79)) → Option R79) (x_11 : (Int × (List K79))) : Option R79 :=
  (if (decide (x_11.1 < (a0.Kd.length : Int))) = true then ((getIdx a0.Kd x_11.1).bind fun y_13 => ((rc_0 (R74.mk y_13.out.Split y_13.out.Kd y_13.out.Lf)).bind fun y_14 => ((apk x_11.2 ([(K79.of y_14)] : List K79)).bind fun l4_15 => (letM ((IntKind.wrap .i64 (x_11.1 + (1 : Int)))) fun t14_16 => (nx_12 (t14_16,l4_15)))))) else (k_18 x_11.2))
def m41B (n : Nat) (rc_0 : R74 → Option R79) (a0 : R74) : Option R79 :=
  (jn (fun p_17 : (List K79) => (some (R79.mk a0.Split p_17 a0.Lf))) fun k_18 => (loopM (m41_L1 n a0 rc_0 k_18) n ((0 : Int),([] : List K79))))
def m41F (n : Nat) : Nat → R74 → Option R79
  | 0 => fun _ => none
  | f + 1 => m41B n (m41F n f)
def m41 (n : Nat) (a0 : R74) : Option R79 := m41F n n a0
def m106_L1 (n : Nat) (a0 : R79) (rc_0 : R79 → Option Int) (k_13 : Int → Option Int) (nx_7 : (Int × Int) → Option Int) (x_6 : (Int × Int)) : Option Int :=
  (if (decide (x_6.2 < (a0.Kd.length : Int))) = true then ((getIdx a0.Kd x_6.2).bind fun y_8 => ((rc_0 (R79.mk y_8.out.Split y_8.out.Kd y_8.out.Lf)).bind fun y_9 => (letM ((IntKind.wrap .i64 (x_6.1 + y_9))) fun t3_10 => (letM ((IntKind.wrap .i64 (x_6.2 + (1 : Int)))) fun t9_11 => (nx_7 (t3_10,t9_11)))))) else (k_13 x_6.1))
def m106B (n : Nat) (rc_0 : R79 → Option Int) (a0 : R79) : Option Int :=
  (jn (fun p_12 : Int => (some p_12)) fun k_13 => (loopM (m106_L1 n a0 rc_0 k_13) n ((1 : Int),(0 : Int))))
def m106F (n : Nat) : Nat → R79 → Option Int
  | 0 => fun _ => none
  | f + 1 => m106B n (m106F n f)
def m106 (n : Nat) (a0 : R79) : Option Int := m106F n n a0
def m107_L1 (n : Nat) (a0 : R79) (rc_0 : R79 → Option Int) (k_13 : Int → Option Int) (nx_7 : (Int × Int) → Option Int) (x_6 : (Int × Int)) : Option Int :=
  (if (decide (x_6.2 < (a0.Kd.length : Int))) = true then ((getIdx a0.Kd x_6.2).bind fun y_8 => ((rc_0 (R79.mk y_8.out.Split y_8.out.Kd y_8.out.Lf)).bind fun y_9 => (letM ((if y_9 > x_6.1 then y_9 else x_6.1)) fun t3_10 => (letM ((IntKind.wrap .i64 (x_6.2 + (1 : Int)))) fun t9_11 => (nx_7 (t3_10,t9_11)))))) else (k_13 x_6.1))
def m107B (n : Nat) (rc_0 : R79 → Option Int) (a0 : R79) : Option Int :=
  (jn (fun p_12 : Int => (letM ((IntKind.wrap .i64 (p_12 + (1 : Int)))) fun t2_14 => (some t2_14))) fun k_13 => (loopM (m107_L1 n a0 rc_0 k_13) n ((0 : Int),(0 : Int))))
def m107F (n : Nat) : Nat → R79 → Option Int
  | 0 => fun _ => none
  | f + 1 => m107B n (m107F n f)
def m107 (n : Nat) (a0 : R79) : Option Int := m107F n n a0
def m119 (n : Nat) (a0 : Int) : Option Bool :=
  (some ((decide ((-1073741824 : Int) ≤ a0)) && (decide (a0 ≤ (1073741824 : Int)))))
def m120 (n : Nat) (a0 : Int) : Option Bool :=
  ((m119 n a0).bind fun y_1 => (some (!y_1)))
def m101x1_L1 (n : Nat) (a0 : (List Int)) (k_11 : Unit → Option Int) (nx_6 : Int → Option Int) (x_5 : Int) : Option Int :=
  (if (decide (x_5 < (a0.length : Int))) = true then ((getIdx a0 x_5).bind fun y_7 => ((m120 n y_7).bind fun y_8 => (if y_8 = true then (some x_5) else (letM ((IntKind.wrap .i64 (x_5 + (1 : Int)))) fun t8_9 => (nx_6 t8_9))))) else (k_11 ()))
def m101x1 (n : Nat) (a0 : (List Int)) : Option Int :=
  (jn (fun p_10 : Unit => (some (-1 : Int))) fun k_11 => (loopM (m101x1_L1 n a0 k_11) n (0 : Int)))
def m80x1 (n : Nat) (a0 : (List Int)) : Option Bool :=
  ((m101x1 n a0).bind fun y_1 => (some (decide ((0 : Int) ≤ y_1))))
def m113 (n : Nat) (a0 : R79) : Option Bool :=
  (if (decide ((0 : Int) < (a0.Kd.length : Int))) = true then ((gdO ((decide ((a0.Lf.length : Int) = (0 : Int))) && (decide ((a0.Kd.length : Int) ≤ (100 : Int)))) (m119 n a0.Split) default).bind fun y_1 => (some (((decide ((a0.Lf.length : Int) = (0 : Int))) && (decide ((a0.Kd.length : Int) ≤ (100 : Int)))) && y_1))) else ((gdO ((decide (a0.Split = (0 : Int))) && (decide ((a0.Lf.length : Int) ≤ (40 : Int)))) (m80x1 n a0.Lf) default).bind fun y_2 => (some (((decide (a0.Split = (0 : Int))) && (decide ((a0.Lf.length : Int) ≤ (40 : Int)))) && (!y_2)))))
def m115 (n : Nat) (rc_0 : R79 → Option Bool) (a0 : R79) : Option Bool :=
  ((rc_0 (R79.mk a0.Split a0.Kd a0.Lf)).bind fun y_1 => (some (!y_1)))
def m121x1_L1 (n : Nat) (a0 : (List K79)) (rc_0 : R79 → Option Bool) (k_11 : Unit → Option Int) (nx_6 : Int → Option Int) (x_5 : Int) : Option Int :=
  (if (decide (x_5 < (a0.length : Int))) = true then ((getIdx a0 x_5).bind fun y_7 => ((m115 n rc_0 (R79.mk y_7.out.Split y_7.out.Kd y_7.out.Lf)).bind fun y_8 => (if y_8 = true then (some x_5) else (letM ((IntKind.wrap .i64 (x_5 + (1 : Int)))) fun t8_9 => (nx_6 t8_9))))) else (k_11 ()))
def m121x1 (n : Nat) (rc_0 : R79 → Option Bool) (a0 : (List K79)) : Option Int :=
  (jn (fun p_10 : Unit => (some (-1 : Int))) fun k_11 => (loopM (m121x1_L1 n a0 rc_0 k_11) n (0 : Int)))
def m114x1 (n : Nat) (rc_0 : R79 → Option Bool) (a0 : (List K79)) : Option Bool :=
  ((m121x1 n rc_0 a0).bind fun y_1 => (some (decide ((0 : Int) ≤ y_1))))
def m108B (n : Nat) (rc_0 : R79 → Option Bool) (a0 : R79) : Option Bool :=
  ((m113 n (R79.mk a0.Split a0.Kd a0.Lf)).bind fun y_1 => ((gdO y_1 (m114x1 n rc_0 a0.Kd) default).bind fun y_2 => (some (y_1 && (!y_2)))))
def m108F (n : Nat) : Nat → R79 → Option Bool
  | 0 => fun _ => none
  | f + 1 => m108B n (m108F n f)
def m108 (n : Nat) (a0 : R79) : Option Bool := m108F n n a0
def m97 (n : Nat) (a0 : R79) : Option Bool :=
  ((m106 n (R79.mk a0.Split a0.Kd a0.Lf)).bind fun y_1 => ((gdO (decide (y_1 ≤ (2000 : Int))) (m107 n (R79.mk a0.Split a0.Kd a0.Lf)) default).bind fun y_2 => ((gdO ((decide (y_1 ≤ (2000 : Int))) && (decide (y_2 ≤ (40 : Int)))) (m108 n (R79.mk a0.Split a0.Kd a0.Lf)) default).bind fun y_3 => (some (((decide (y_1 ≤ (2000 : Int))) && (decide (y_2 ≤ (40 : Int)))) && y_3)))))
def m98_L1 (n : Nat) (a1 : R79) (rc_0 : R57 → R79 → (List Int) → Option (Bool × (List Int))) (y_2 : ((List R57) × Bool)) (k_26 : (List Int) → Option (Bool × (List Int))) (nx_18 : (Int × (List Int)) → Option (Bool × (List Int))) (x_17 : (Int × (List Int))) : Option (Bool × (List Int)) :=
  (if (decide (x_17.1 < (a1.Kd.length : Int))) = true then ((getIdx a1.Kd x_17.1).bind fun y_19 => ((apd x_17.2 ([x_17.1] : List Int)).bind fun l4_20 => ((getIdx y_2.1 x_17.1).bind fun y_21 => ((rc_0 (R57.mk (R24.mk y_21.Gq.Pq y_21.Gq.Bq) y_21.Path y_21.Ln) (R79.mk y_19.out.Split y_19.out.Kd y_19.out.Lf) l4_20).bind fun y_22 => (if y_22.1 = true then (some (true,y_22.2)) else ((slc y_22.2 (0 : Int) (IntKind.wrap .i64 ((y_22.2.length : Int) - (1 : Int)))).bind fun l4_23 => (letM ((IntKind.wrap .i64 (x_17.1 + (1 : Int)))) fun t44_24 => (nx_18 (t44_24,l4_23))))))))) else (k_26 x_17.2))
def m98B (n : Nat) (rc_0 : R57 → R79 → (List Int) → Option (Bool × (List Int))) (a0 : R57) (a1 : R79) (a4_b0_b : (List Int)) : Option (Bool × (List Int)) :=
  (if (decide ((a1.Kd.length : Int) = (0 : Int))) = true then ((m27 n (R57.mk (R24.mk a0.Gq.Pq a0.Gq.Bq) a0.Path a0.Ln) a1.Lf).bind fun y_1 => (some ((!y_1),a4_b0_b))) else ((m24 n (R57.mk (R24.mk a0.Gq.Pq a0.Gq.Bq) a0.Path a0.Ln) a1.Split).bind fun y_2 => (if ((!y_2.2) || (!decide ((y_2.1.length : Int) = (a1.Kd.length : Int)))) = true then (some (true,a4_b0_b)) else (jn (fun p_25 : (List Int) => (some (false,p_25))) fun k_26 => (loopM (m98_L1 n a1 rc_0 y_2 k_26) n ((0 : Int),a4_b0_b))))))
def m98F (n : Nat) : Nat → R57 → R79 → (List Int) → Option (Bool × (List Int))
  | 0 => fun _ _ _ => none
  | f + 1 => m98B n (m98F n f)
def m98 (n : Nat) (a0 : R57) (a1 : R79) (a4_b0_b : (List Int)) : Option (Bool × (List Int)) := m98F n n a0 a1 a4_b0_b
def m75 (n : Nat) (a0 : R57) (a1 : R79) : Option ((List Int) × Int) :=
  ((m97 n (R79.mk a1.Split a1.Kd a1.Lf)).bind fun y_1 => (if (!y_1) = true then (some (([] : List Int),(1 : Int))) else ((m98 n (R57.mk (R24.mk a0.Gq.Pq a0.Gq.Bq) a0.Path a0.Ln) (R79.mk a1.Split a1.Kd a1.Lf) ([] : List Int)).bind fun y_2 => (if y_2.1 = true then (some (y_2.2,(21 : Int))) else (some (([] : List Int),(0 : Int)))))))
def m40 (n : Nat) (a0 : R57) (a1 : R79) : Option ((List Int) × Int) :=
  ((m61 n (R57.mk (R24.mk a0.Gq.Pq a0.Gq.Bq) a0.Path a0.Ln)).bind fun y_1 => (if (!y_1) = true then (some (([] : List Int),(1 : Int))) else ((m75 n (R57.mk (R24.mk a0.Gq.Pq a0.Gq.Bq) a0.Path a0.Ln) (R79.mk a1.Split a1.Kd a1.Lf)).bind fun y_2 => (some (y_2.1,y_2.2)))))
def m109 (n : Nat) (a0 : Int) : Option Bool :=
  (some ((decide ((-1073741824 : Int) ≤ a0)) && (decide (a0 ≤ (1073741824 : Int)))))
def m99_L2 (n : Nat) (a0 : R74) (rc_0 : R74 → Option Bool) (k_24 : Unit → Option Bool) (nx_19 : Int → Option Bool) (x_18 : Int) : Option Bool :=
  (if (decide (x_18 < (a0.Kd.length : Int))) = true then ((getIdx a0.Kd x_18).bind fun y_20 => ((rc_0 (R74.mk y_20.out.Split y_20.out.Kd y_20.out.Lf)).bind fun y_21 => (if (!y_21) = true then (some false) else (letM ((IntKind.wrap .i64 (x_18 + (1 : Int)))) fun t4_22 => (nx_19 t4_22))))) else (k_24 ()))
def m99_L1 (n : Nat) (a0 : R74) (k_13 : Unit → Option Bool) (nx_8 : Int → Option Bool) (x_7 : Int) : Option Bool :=
  (if (decide (x_7 < (a0.Lf.length : Int))) = true then ((getIdx a0.Lf x_7).bind fun y_9 => ((m109 n y_9).bind fun y_10 => (if (!y_10) = true then (some false) else (letM ((IntKind.wrap .i64 (x_7 + (1 : Int)))) fun t3_11 => (nx_8 t3_11))))) else (k_13 ()))
def m99B (n : Nat) (rc_0 : R74 → Option Bool) (a0 : R74) : Option Bool :=
  ((m109 n a0.Split).bind fun y_1 => (letM ((((((!y_1) || (decide ((100 : Int) < (a0.Kd.length : Int)))) || (decide ((40 : Int) < (a0.Lf.length : Int)))) || ((decide ((0 : Int) < (a0.Kd.length : Int))) && (decide ((0 : Int) < (a0.Lf.length : Int))))) || ((decide ((a0.Kd.length : Int) = (0 : Int))) && (!decide (a0.Split = (0 : Int)))))) fun t43_2 => (if t43_2 = true then (some false) else (jn (fun p_12 : Unit => (jn (fun p_23 : Unit => (some true)) fun k_24 => (loopM (m99_L2 n a0 rc_0 k_24) n (0 : Int)))) fun k_13 => (loopM (m99_L1 n a0 k_13) n (0 : Int))))))
def m99F (n : Nat) : Nat → R74 → Option Bool
  | 0 => fun _ => none
  | f + 1 => m99B n (m99F n f)
def m99 (n : Nat) (a0 : R74) : Option Bool := m99F n n a0
def m100_L1 (n : Nat) (a0 : R74) (rc_0 : R74 → Option Int) (k_13 : Int → Option Int) (nx_7 : (Int × Int) → Option Int) (x_6 : (Int × Int)) : Option Int :=
  (if (decide (x_6.2 < (a0.Kd.length : Int))) = true then ((getIdx a0.Kd x_6.2).bind fun y_8 => ((rc_0 (R74.mk y_8.out.Split y_8.out.Kd y_8.out.Lf)).bind fun y_9 => (letM ((if y_9 > x_6.1 then y_9 else x_6.1)) fun t3_10 => (letM ((IntKind.wrap .i64 (x_6.2 + (1 : Int)))) fun t4_11 => (nx_7 (t3_10,t4_11)))))) else (k_13 x_6.1))
def m100B (n : Nat) (rc_0 : R74 → Option Int) (a0 : R74) : Option Int :=
  (jn (fun p_12 : Int => (letM ((IntKind.wrap .i64 (p_12 + (1 : Int)))) fun t2_14 => (some t2_14))) fun k_13 => (loopM (m100_L1 n a0 rc_0 k_13) n ((0 : Int),(0 : Int))))
def m100F (n : Nat) : Nat → R74 → Option Int
  | 0 => fun _ => none
  | f + 1 => m100B n (m100F n f)
def m100 (n : Nat) (a0 : R74) : Option Int := m100F n n a0
def m76 (n : Nat) (a0 : R74) : Option Bool :=
  ((m99 n (R74.mk a0.Split a0.Kd a0.Lf)).bind fun y_1 => ((gdO y_1 (m74 n (R74.mk a0.Split a0.Kd a0.Lf)) default).bind fun y_2 => ((gdO (y_1 && (decide (y_2 ≤ (2000 : Int)))) (m100 n (R74.mk a0.Split a0.Kd a0.Lf)) default).bind fun y_3 => (some ((y_1 && (decide (y_2 ≤ (2000 : Int)))) && (decide (y_3 ≤ (40 : Int))))))))
def m77_L1 (n : Nat) (a1 : R74) (rc_0 : R52 → R74 → Option ((List Int) × Bool)) (y_2 : ((List R52) × Bool)) (k_17 : Unit → Option ((List Int) × Bool)) (nx_10 : Int → Option ((List Int) × Bool)) (x_9 : Int) : Option ((List Int) × Bool) :=
  (if (decide (x_9 < (y_2.1.length : Int))) = true then ((getIdx y_2.1 x_9).bind fun y_11 => ((getIdx a1.Kd x_9).bind fun y_12 => ((rc_0 (R52.mk (R24.mk y_11.Gq.Pq y_11.Gq.Bq) y_11.Path y_11.Ln) (R74.mk y_12.out.Split y_12.out.Kd y_12.out.Lf)).bind fun y_13 => (if y_13.2 = true then ((apd ([x_9] : List Int) y_13.1).bind fun l3_14 => (some (l3_14,true))) else (letM ((IntKind.wrap .i64 (x_9 + (1 : Int)))) fun t8_15 => (nx_10 t8_15)))))) else (k_17 ()))
def m77B (n : Nat) (rc_0 : R52 → R74 → Option ((List Int) × Bool)) (a0 : R52) (a1 : R74) : Option ((List Int) × Bool) :=
  (if (decide ((a1.Kd.length : Int) = (0 : Int))) = true then ((m28 n (R52.mk (R24.mk a0.Gq.Pq a0.Gq.Bq) a0.Path a0.Ln) a1.Lf).bind fun y_1 => (some (([] : List Int),(!y_1)))) else ((m26 n (R52.mk (R24.mk a0.Gq.Pq a0.Gq.Bq) a0.Path a0.Ln) a1.Split).bind fun y_2 => (if ((!y_2.2) || (!decide ((y_2.1.length : Int) = (a1.Kd.length : Int)))) = true then (some (([] : List Int),true)) else (jn (fun p_16 : Unit => (some (([] : List Int),false))) fun k_17 => (loopM (m77_L1 n a1 rc_0 y_2 k_17) n (0 : Int))))))
def m77F (n : Nat) : Nat → R52 → R74 → Option ((List Int) × Bool)
  | 0 => fun _ _ => none
  | f + 1 => m77B n (m77F n f)
def m77 (n : Nat) (a0 : R52) (a1 : R74) : Option ((List Int) × Bool) := m77F n n a0 a1
def m42 (n : Nat) (a0 : R52) (a1 : R74) : Option ((List Int) × Int) :=
  ((m64 n (R52.mk (R24.mk a0.Gq.Pq a0.Gq.Bq) a0.Path a0.Ln)).bind fun y_1 => ((gdO (!(!y_1)) (m76 n (R74.mk a1.Split a1.Kd a1.Lf)) default).bind fun y_2 => (if ((!y_1) || (!y_2)) = true then (some (([] : List Int),(1 : Int))) else ((m77 n (R52.mk (R24.mk a0.Gq.Pq a0.Gq.Bq) a0.Path a0.Ln) (R74.mk a1.Split a1.Kd a1.Lf)).bind fun y_3 => (if y_3.2 = true then (some (y_3.1,(21 : Int))) else (some (([] : List Int),(0 : Int))))))))
def m43 (n : Nat) (a0 : R24) (a1 : R83) : Option Bool :=
  ((m29 n (R24.mk a0.Pq a0.Bq) a1.Order).bind fun y_1 => (if ((!decide (y_1.2 = (0 : Int))) || (!decide (y_1.1 = a1.Ln))) = true then (some false) else ((m40 n (R57.mk (R24.mk a0.Pq a0.Bq) ([(0 : Int)] : List Int) y_1.1) (R79.mk a1.Proof.Split a1.Proof.Kd a1.Proof.Lf)).bind fun y_2 => (some (decide (y_2.2 = (0 : Int)))))))
def m44 (n : Nat) (a0 : R24) (a1 : R85) : Option Bool :=
  ((m30 n (R24.mk a0.Pq a0.Bq) a1.Order).bind fun y_1 => (if ((!decide (y_1.2 = (0 : Int))) || (!decide (y_1.1 = a1.Ln))) = true then (some false) else ((m42 n (R52.mk (R24.mk a0.Pq a0.Bq) ([(0 : Int)] : List Int) y_1.1) (R74.mk a1.Proof.Split a1.Proof.Kd a1.Proof.Lf)).bind fun y_2 => (some (decide (y_2.2 = (0 : Int)))))))
def m10_L1 (n : Nat) (a0 : R52) (a2 : (List UInt8)) (k_47 : (List Int) → Option Bool) (nx_36 : (Int × (List Int)) → Option Bool) (x_35 : (Int × (List Int))) : Option Bool :=
  (if (decide ((x_35.2.length : Int) < (a0.Gq.Pq.length : Int))) = true then ((m45 n (R24.mk a0.Gq.Pq a0.Gq.Bq) x_35.2).bind fun y_37 => (jn (fun p_41 : Int => ((getIdx y_37 p_41).bind fun y_43 => ((apd x_35.2 ([y_43] : List Int)).bind fun l5_44 => (letM ((IntKind.wrap .i64 (x_35.1 + (1 : Int)))) fun t14_45 => (nx_36 (t14_45,l5_44)))))) fun k_42 => (if (decide (x_35.1 < (a2.length : Int))) = true then ((getIdx a2 x_35.1).bind fun y_38 => (asrt ((y_37.length : Int) ≠ 0) (letM (((IntKind.wrap .i64 (y_38.toNat : Int)).tmod (y_37.length : Int))) fun t16_40 => (k_42 t16_40)))) else (k_42 (0 : Int))))) else (k_47 x_35.2))
def m10 (n : Nat) (a0 : R52) (a1 : R74) (a2 : (List UInt8)) : Option Bool :=
  ((m11 n).bind fun y_1 => ((gdO (!(!y_1)) (m38 n (R24.mk a0.Gq.Pq a0.Gq.Bq)) default).bind fun y_2 => ((gdO (!(((!y_1) || (!y_2)) || (decide ((12 : Int) < (a0.Path.length : Int))))) (m39 n (R74.mk a1.Split a1.Kd a1.Lf)) default).bind fun y_3 => (if ((((!y_1) || (!y_2)) || (decide ((12 : Int) < (a0.Path.length : Int)))) || (!y_3)) = true then ((m11 n).bind fun y_4 => (some y_4)) else ((m25 n (R52.mk (R24.mk a0.Gq.Pq a0.Gq.Bq) a0.Path a0.Ln)).bind fun y_5 => ((m41 n (R74.mk a1.Split a1.Kd a1.Lf)).bind fun y_6 => ((m40 n (R57.mk (R24.mk y_5.Gq.Pq y_5.Gq.Bq) y_5.Path y_5.Ln) (R79.mk y_6.Split y_6.Kd y_6.Lf)).bind fun y_7 => ((m42 n (R52.mk (R24.mk a0.Gq.Pq a0.Gq.Bq) a0.Path a0.Ln) (R74.mk a1.Split a1.Kd a1.Lf)).bind fun y_8 => ((m41 n (R74.mk a1.Split a1.Kd a1.Lf)).bind fun y_9 => ((m17 n y_7.1 y_8.1).bind fun y_10 => ((gdO (!((!y_10) || (!decide (y_7.2 = y_8.2)))) (m14 n (R24.mk a0.Gq.Pq a0.Gq.Bq)) default).bind fun y_11 => ((gdO (!((!y_10) || (!decide (y_7.2 = y_8.2)))) (m43 n y_11 (R83.mk a0.Path a0.Ln (R79.mk y_9.Split y_9.Kd y_9.Lf))) default).bind fun y_12 => ((gdO (!((!y_10) || (!decide (y_7.2 = y_8.2)))) (m44 n (R24.mk a0.Gq.Pq a0.Gq.Bq) (R85.mk a0.Path a0.Ln (R74.mk a1.Split a1.Kd a1.Lf))) default).bind fun y_13 => (if (((!y_10) || (!decide (y_7.2 = y_8.2))) || (y_12 != y_13)) = true then (some false) else (if (!decide (y_7.2 = (0 : Int))) = true then (some true) else ((apd ([] : List Int) a0.Path).bind fun l5_14 => (jn (fun p_46 : (List Int) => ((m20 n (R24.mk a0.Gq.Pq a0.Gq.Bq) p_46).bind fun y_48 => (some (decide (a0.Ln ≤ y_48))))) fun k_47 => (loopM (m10_L1 n a0 a2 k_47) n ((0 : Int),l5_14)))))))))))))))))))
abbrev pW (b c : Bool) (P : R24) : List AV := [rW b P.Pq e45,rW c P.Bq e93]
abbrev gW (b c d : Bool) (P : R24) (l : List Int) (n : Int) : List AV := [rW b P.Pq e45,rW c P.Bq e93,rW d l eW,iW n]
end Go.AB
