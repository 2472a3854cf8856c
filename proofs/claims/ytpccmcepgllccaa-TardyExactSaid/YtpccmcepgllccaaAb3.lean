/-
  AB, part 3: operations that compute: moves, integers, booleans, strings, lengths.
-/
import Derived.Test.YtpccmcepgllccaaAb2
import Derived.WalkKit
namespace Go.AB
open Go

section
variable {C : Ctx} {d : Nat} {ty : TypeId} {p : String} {e : Array Edge} {g : Option (Nat × Bool)} {s : St}

theorem sc_inv {w : World} {Z : Zone} {ι : Tags} {v u : Value} (h : VR w Z ι (.sc v) u) : u = v := by cases h; rfl
theorem Ev.sc {x : Operand} {v : Value} (h : Ev C s x (.sc v)) {ι : Tags} {a : Act} {w : World} (r : Rel C s ι a w) : a.eval x = v := sc_inv (h ι a w r)

theorem AStep.move {x : Operand} {v : AV} (hd : d < C.N) (hx : Ev C s x v) : AStep C ⟨some d, .move x, ty, p, e, g⟩ s (s.put d v) :=
  .val hd (fun _ h => by cases h) fun ι a w r => ⟨a.eval x, rfl, hx ι a w r⟩
theorem AStep.assign {x : Operand} {v : AV} (hd : d < C.N) (hx : Ev C s x v) : AStep C ⟨some d, .assign x, ty, p, e, g⟩ s (s.put d v) :=
  .val hd (fun _ h => by cases h) fun ι a w r => ⟨a.eval x, rfl, hx ι a w r⟩

theorem AStep.bin {op : BinOp} {T U : TypeId} {x y : Operand} {m n u : Value} (hd : d < C.N) (hx : Ev C s x (.sc m)) (hy : Ev C s y (.sc n))
    (h : ∀ w, (do eqGuard op T x y m n; binOp op T m n : Sem Value).run C.P w = .ok u w) : AStep C ⟨some d, .binOp op T x y U, ty, p, e, g⟩ s (s.put d (.sc u)) :=
  .val hd (fun _ h => by cases h) fun ι a w r => by
    refine ⟨u, ?_, .sc _ _ _⟩
    simp only [execOp, hx.sc r, hy.sc r]
    have := h w
    simp only [Sem.run_bind] at this ⊢
    rw [this]
    simp

section ints
variable {T U : TypeId} {x y : Operand} {k : IntKind} {m n : Int} (hd : d < C.N) (hx : Ev C s x (.sc (.int k m))) (hy : Ev C s y (.sc (.int k n)))
include hd hx hy
theorem AStep.add : AStep C ⟨some d, .binOp .add T x y U, ty, p, e, g⟩ s (s.put d (.sc (.int k (k.wrap (m + n))))) := .bin hd hx hy fun w => by simp [eqGuard, binOp, Op.intArith]
theorem AStep.sub : AStep C ⟨some d, .binOp .sub T x y U, ty, p, e, g⟩ s (s.put d (.sc (.int k (k.wrap (m - n))))) := .bin hd hx hy fun w => by simp [eqGuard, binOp, Op.intArith]
theorem AStep.mul : AStep C ⟨some d, .binOp .mul T x y U, ty, p, e, g⟩ s (s.put d (.sc (.int k (k.wrap (m * n))))) := .bin hd hx hy fun w => by simp [eqGuard, binOp, Op.intArith]
theorem AStep.quo (h0 : n ≠ 0) : AStep C ⟨some d, .binOp .quo T x y U, ty, p, e, g⟩ s (s.put d (.sc (.int k (k.wrap (m.tdiv n))))) := .bin hd hx hy fun w => by simp [eqGuard, binOp, Op.intDiv, h0]
theorem AStep.rem (h0 : n ≠ 0) : AStep C ⟨some d, .binOp .rem T x y U, ty, p, e, g⟩ s (s.put d (.sc (.int k (m.tmod n)))) := .bin hd hx hy fun w => by simp [eqGuard, binOp, Op.intDiv, h0]
theorem AStep.eql : AStep C ⟨some d, .binOp .eql T x y U, ty, p, e, g⟩ s (s.put d (.sc (.bool (decide (m = n))))) := .bin hd hx hy fun w => by simp [eqGuard, binOp, Op.intCmp]; rfl
theorem AStep.neq : AStep C ⟨some d, .binOp .neq T x y U, ty, p, e, g⟩ s (s.put d (.sc (.bool (!decide (m = n))))) := .bin hd hx hy fun w => by simp [eqGuard, binOp, Op.intCmp]; rfl
theorem AStep.lss : AStep C ⟨some d, .binOp .lss T x y U, ty, p, e, g⟩ s (s.put d (.sc (.bool (decide (m < n))))) := .bin hd hx hy fun w => by simp [eqGuard, binOp, Op.intCmp]
theorem AStep.leq : AStep C ⟨some d, .binOp .leq T x y U, ty, p, e, g⟩ s (s.put d (.sc (.bool (decide (m ≤ n))))) := .bin hd hx hy fun w => by simp [eqGuard, binOp, Op.intCmp]
theorem AStep.gtr : AStep C ⟨some d, .binOp .gtr T x y U, ty, p, e, g⟩ s (s.put d (.sc (.bool (decide (n < m))))) := .bin hd hx hy fun w => by simp [eqGuard, binOp, Op.intCmp]
theorem AStep.geq : AStep C ⟨some d, .binOp .geq T x y U, ty, p, e, g⟩ s (s.put d (.sc (.bool (decide (n ≤ m))))) := .bin hd hx hy fun w => by simp [eqGuard, binOp, Op.intCmp]
end ints

/-- bits of integers: as the model has them -/
def andI (k : IntKind) (x y : Int) : Int := k.wrap ((BitVec.ofInt k.bits x &&& BitVec.ofInt k.bits y).toNat : Int)
def orI (k : IntKind) (x y : Int) : Int := k.wrap ((BitVec.ofInt k.bits x ||| BitVec.ofInt k.bits y).toNat : Int)
def xorI (k : IntKind) (x y : Int) : Int := k.wrap ((BitVec.ofInt k.bits x ^^^ BitVec.ofInt k.bits y).toNat : Int)
def andNotI (k : IntKind) (x y : Int) : Int := k.wrap ((BitVec.ofInt k.bits x &&& ~~~BitVec.ofInt k.bits y).toNat : Int)
def shlI (k : IntKind) (x y : Int) : Int := k.wrap (x * 2 ^ min y.toNat k.bits)
def shrI (k : IntKind) (x y : Int) : Int := x.fdiv (2 ^ min y.toNat k.bits)

section bits
variable {T U : TypeId} {x y : Operand} {k : IntKind} {m n : Int} (hd : d < C.N) (hx : Ev C s x (.sc (.int k m)))
include hd hx
section same
variable (hy : Ev C s y (.sc (.int k n)))
include hy
theorem AStep.band : AStep C ⟨some d, .binOp .and T x y U, ty, p, e, g⟩ s (s.put d (.sc (.int k (andI k m n)))) := .bin hd hx hy fun w => by simp [eqGuard, binOp, Op.intBits, andI]
theorem AStep.bor : AStep C ⟨some d, .binOp .or T x y U, ty, p, e, g⟩ s (s.put d (.sc (.int k (orI k m n)))) := .bin hd hx hy fun w => by simp [eqGuard, binOp, Op.intBits, orI]
theorem AStep.bxor : AStep C ⟨some d, .binOp .xor T x y U, ty, p, e, g⟩ s (s.put d (.sc (.int k (xorI k m n)))) := .bin hd hx hy fun w => by simp [eqGuard, binOp, Op.intBits, xorI]
theorem AStep.bandNot : AStep C ⟨some d, .binOp .andNot T x y U, ty, p, e, g⟩ s (s.put d (.sc (.int k (andNotI k m n)))) := .bin hd hx hy fun w => by simp [eqGuard, binOp, Op.intBits, andNotI]
end same
theorem AStep.shl {k' : IntKind} (hy : Ev C s y (.sc (.int k' n))) (h0 : 0 ≤ n) : AStep C ⟨some d, .binOp .shl T x y U, ty, p, e, g⟩ s (s.put d (.sc (.int k (shlI k m n)))) :=
  .bin hd hx hy fun w => by simp [eqGuard, binOp, Op.shift, shlI, Int.not_lt.2 h0]
theorem AStep.shr {k' : IntKind} (hy : Ev C s y (.sc (.int k' n))) (h0 : 0 ≤ n) : AStep C ⟨some d, .binOp .shr T x y U, ty, p, e, g⟩ s (s.put d (.sc (.int k (shrI k m n)))) :=
  .bin hd hx hy fun w => by simp [eqGuard, binOp, Op.shift, shrI, Int.not_lt.2 h0]
end bits

theorem AStep.eqlB {T U : TypeId} {x y : Operand} {m n : Bool} (hd : d < C.N) (hx : Ev C s x (.sc (.bool m))) (hy : Ev C s y (.sc (.bool n))) (hT : C.P.underlying T = some .bool) :
    AStep C ⟨some d, .binOp .eql T x y U, ty, p, e, g⟩ s (s.put d (.sc (.bool (m == n)))) := .bin hd hx hy fun w => by
  have h := run_eql_bool (P := C.P) w T m n hT
  simp [eqGuard, h]
theorem AStep.neqB {T U : TypeId} {x y : Operand} {m n : Bool} (hd : d < C.N) (hx : Ev C s x (.sc (.bool m))) (hy : Ev C s y (.sc (.bool n))) (hT : C.P.underlying T = some .bool) :
    AStep C ⟨some d, .binOp .neq T x y U, ty, p, e, g⟩ s (s.put d (.sc (.bool (m != n)))) := .bin hd hx hy fun w => by
  have h := run_equal_bool (P := C.P) w T m n hT
  simp [eqGuard, binOp, h]
  cases m <;> cases n <;> rfl

/-- a text's bytes as Go's string -/
def mkS (l : List UInt8) : ByteArray := ⟨l.toArray⟩
theorem mkS_toList (l : List UInt8) : (mkS l).data.toList = l := by simp [mkS]
theorem mkS_size (l : List UInt8) : (mkS l).size = l.length := by simp [mkS, ByteArray.size]
theorem mkS_list (l : List UInt8) : (mkS l).toList = l := by rw [ByteArray.toList_eq, mkS_toList]

theorem AStep.eqlS {T U : TypeId} {x y : Operand} {m n : List UInt8} (hd : d < C.N) (hx : Ev C s x (.sc (.string (mkS m)))) (hy : Ev C s y (.sc (.string (mkS n)))) :
    AStep C ⟨some d, .binOp .eql T x y U, ty, p, e, g⟩ s (s.put d (.sc (.bool (m == n)))) := .bin hd hx hy fun w => by
  simp only [eqGuard, binOp, Op.stringOp, mkS_list]; rfl
theorem AStep.neqS {T U : TypeId} {x y : Operand} {m n : List UInt8} (hd : d < C.N) (hx : Ev C s x (.sc (.string (mkS m)))) (hy : Ev C s y (.sc (.string (mkS n)))) :
    AStep C ⟨some d, .binOp .neq T x y U, ty, p, e, g⟩ s (s.put d (.sc (.bool (!(m == n))))) := .bin hd hx hy fun w => by
  simp only [eqGuard, binOp, Op.stringOp, mkS_list]; rfl

theorem AStep.un {op : UnOp} {T : TypeId} {x : Operand} {m u : Value} (hd : d < C.N) (hx : Ev C s x (.sc m)) (h : ∀ w, (Op.unary op m).run C.P w = .ok u w) :
    AStep C ⟨some d, .unOp op T x, ty, p, e, g⟩ s (s.put d (.sc u)) :=
  .val hd (fun _ h => by cases h) fun ι a w r => ⟨u, by simp [execOp, hx.sc r, h w], .sc _ _ _⟩
theorem AStep.not {T : TypeId} {x : Operand} {b : Bool} (hd : d < C.N) (hx : Ev C s x (.sc (.bool b))) : AStep C ⟨some d, .unOp .not T x, ty, p, e, g⟩ s (s.put d (.sc (.bool (!b)))) :=
  .un hd hx fun _ => rfl
theorem AStep.neg {T : TypeId} {x : Operand} {k : IntKind} {n : Int} (hd : d < C.N) (hx : Ev C s x (.sc (.int k n))) : AStep C ⟨some d, .unOp .neg T x, ty, p, e, g⟩ s (s.put d (.sc (.int k (k.wrap (0 - n))))) :=
  .un hd hx fun _ => rfl
theorem AStep.compl {T : TypeId} {x : Operand} {k : IntKind} {n : Int} (hd : d < C.N) (hx : Ev C s x (.sc (.int k n))) :
    AStep C ⟨some d, .unOp .xor T x, ty, p, e, g⟩ s (s.put d (.sc (.int k (xorI k (if k.signed then -1 else k.max) n)))) :=
  .un hd hx fun _ => by simp [Op.unary, Op.intBits, xorI]

theorem AStep.conv {S T : TypeId} {x : Operand} {k k' : IntKind} {n : Int} (hd : d < C.N) (hx : Ev C s x (.sc (.int k' n))) (hS : C.P.underlying S = some (.int k')) (hT : C.P.underlying T = some (.int k)) :
    AStep C ⟨some d, .convert S T x, ty, p, e, g⟩ s (s.put d (.sc (.int k (k.wrap n)))) :=
  .val hd (fun _ h => by cases h) fun ι a w r => ⟨.int k (k.wrap n), by simp [execOp, hx.sc r, convert, run_underlying hS, run_underlying hT, Conv.intToInt], .sc _ _ _⟩

theorem AStep.pickAnd {c x y : Operand} {b m : Bool} (hd : d < C.N) (hc : Ev C s c (.sc (.bool b))) (hx : Ev C s x (.gd b (.sc (.bool m)))) (hy : Ev C s y (.sc (.bool false))) :
    AStep C ⟨some d, .pick c x y, ty, p, e, g⟩ s (s.put d (.sc (.bool (b && m)))) :=
  .val hd (fun _ h => by cases h) fun ι a w r => by
    refine ⟨.bool (b && m), ?_, .sc _ _ _⟩
    have h := hx ι a w r
    cases b with
    | false => simp [execOp, hc.sc r, hy.sc r, asBool]
    | true =>
      have : a.eval x = .bool m := by
        generalize a.eval x = u at h
        cases h with
        | gd _ _ _ _ _ h _ => exact sc_inv (h rfl)
      simp [execOp, hc.sc r, this, asBool]
theorem AStep.pickOr {c x y : Operand} {b m : Bool} (hd : d < C.N) (hc : Ev C s c (.sc (.bool b))) (hx : Ev C s x (.sc (.bool true))) (hy : Ev C s y (.gd (!b) (.sc (.bool m)))) :
    AStep C ⟨some d, .pick c x y, ty, p, e, g⟩ s (s.put d (.sc (.bool (b || m)))) :=
  .val hd (fun _ h => by cases h) fun ι a w r => by
    refine ⟨.bool (b || m), ?_, .sc _ _ _⟩
    have h := hy ι a w r
    cases b with
    | true => simp [execOp, hc.sc r, hx.sc r, asBool]
    | false =>
      have : a.eval y = .bool m := by
        generalize a.eval y = u at h
        cases h with
        | gd _ _ _ _ _ h _ => exact sc_inv (h rfl)
      simp [execOp, hc.sc r, this, asBool]

/-- a built-in function that only looks at its argument -/
theorem AStep.bi1 {b : Builtin} {x : Operand} {T : TypeId} {u : Value} (hd : d < C.N)
    (h : ∀ ι a w, Rel C s ι a w → (builtin b #[T] ty (#[x].map fun | .const _ => true | _ => false) #[a.eval x]).run C.P w = .ok (.value u) w) :
    AStep C ⟨some d, .call { callee := .builtin b, args := #[x], argTypes := #[T] }, ty, p, e, g⟩ s (s.put d (.sc u)) :=
  .val hd (fun _ h => by cases h) fun ι a w r => by
    refine ⟨u, ?_, .sc _ _ _⟩
    have := h ι a w r
    simp only [execOp, resolve, Sem.run_bind, Sem.run_pure, Result.andThen_ok, invoke, List.map_toArray, List.map_cons, List.map_nil] at this ⊢
    exact this

theorem len_slice {P : Program} {w : World} {T E : TypeId} (hT : P.underlying T = some (.slice E)) (ty : TypeId) (a : Option Addr) (n c : Nat) (cs : Array Bool) :
    (builtin .len #[T] ty cs #[.slice a n c]).run P w = .ok (.value (.int .i64 n)) w := by
  simp [builtin, Builtin.len_, run_underlying hT, goInt]
theorem AStep.lenRd {x : Operand} {T E : TypeId} {β : Bool} {n : Nat} {cs : List AV} (hd : d < C.N) (hx : Ev C s x (.rd β n cs)) (hT : C.P.underlying T = some (.slice E)) :
    AStep C ⟨some d, .call { callee := .builtin .len, args := #[x], argTypes := #[T] }, ty, p, e, g⟩ s (s.put d (.sc (.int .i64 n))) :=
  .bi1 hd fun ι a w r => by
    have h := hx ι a w r
    generalize a.eval x = u at h
    cases h with
    | rdnil => exact len_slice hT _ _ _ _ _
    | rd => exact len_slice hT _ _ _ _ _
theorem AStep.lenOwn {x : Operand} {T E : TypeId} {t sz off n : Nat} (hd : d < C.N) (hx : Ev C s x (.own t sz off n)) (hT : C.P.underlying T = some (.slice E)) :
    AStep C ⟨some d, .call { callee := .builtin .len, args := #[x], argTypes := #[T] }, ty, p, e, g⟩ s (s.put d (.sc (.int .i64 n))) :=
  .bi1 hd fun ι a w r => by
    have h := hx ι a w r
    generalize a.eval x = u at h
    cases h with
    | ownnil => exact len_slice hT _ _ _ _ _
    | ownz => exact len_slice hT _ _ _ _ _
    | own => exact len_slice hT _ _ _ _ _
theorem AStep.lenRdx {x : Operand} {T E : TypeId} {β : Bool} {n : Nat} {cs : List AV} (hd : d < C.N) (hx : Ev C s x (.rdx β n cs)) (hT : C.P.underlying T = some (.slice E)) :
    AStep C ⟨some d, .call { callee := .builtin .len, args := #[x], argTypes := #[T] }, ty, p, e, g⟩ s (s.put d (.sc (.int .i64 n))) :=
  .bi1 hd fun ι a w r => by
    have h := hx ι a w r
    generalize a.eval x = u at h
    cases h with
    | rdxnil => exact len_slice hT _ _ _ _ _
    | rdx => exact len_slice hT _ _ _ _ _
theorem AStep.lenNil {x : Operand} {T E : TypeId} (hd : d < C.N) (hx : Ev C s x (.sc (.slice none 0 0))) (hT : C.P.underlying T = some (.slice E)) :
    AStep C ⟨some d, .call { callee := .builtin .len, args := #[x], argTypes := #[T] }, ty, p, e, g⟩ s (s.put d (.sc (.int .i64 0))) :=
  .bi1 hd fun ι a w r => by rw [hx.sc r]; exact len_slice hT _ _ _ _ _
theorem AStep.lenS {x : Operand} {T : TypeId} {l : List UInt8} (hd : d < C.N) (hx : Ev C s x (.sc (.string (mkS l)))) (hT : C.P.underlying T = some .string) :
    AStep C ⟨some d, .call { callee := .builtin .len, args := #[x], argTypes := #[T] }, ty, p, e, g⟩ s (s.put d (.sc (.int .i64 l.length))) :=
  .bi1 hd fun ι a w r => by
    rw [hx.sc r]
    simp [builtin, Builtin.len_, run_underlying hT, goInt, mkS_size]

/-- the built-in min and max of two integers -/
theorem AStep.bi2 {b : Builtin} {x y : Operand} {T U : TypeId} {m n u : Value} (hd : d < C.N) (hx : Ev C s x (.sc m)) (hy : Ev C s y (.sc n))
    (h : ∀ w cs, (builtin b #[T, U] ty cs #[m, n]).run C.P w = .ok (.value u) w) :
    AStep C ⟨some d, .call { callee := .builtin b, args := #[x, y], argTypes := #[T, U] }, ty, p, e, g⟩ s (s.put d (.sc u)) :=
  .val hd (fun _ h => by cases h) fun ι a w r => by
    refine ⟨u, ?_, .sc _ _ _⟩
    have := h w (#[x, y].map fun | .const _ => true | _ => false)
    simp only [execOp, resolve, Sem.run_bind, Sem.run_pure, Result.andThen_ok, invoke, List.map_toArray, List.map_cons, List.map_nil, hx.sc r, hy.sc r] at this ⊢
    exact this
theorem AStep.max2 {x y : Operand} {T U : TypeId} {k : IntKind} {m n : Int} (hd : d < C.N) (hx : Ev C s x (.sc (.int k m))) (hy : Ev C s y (.sc (.int k n))) :
    AStep C ⟨some d, .call { callee := .builtin .max, args := #[x, y], argTypes := #[T, U] }, ty, p, e, g⟩ s (s.put d (.sc (.int k (if n > m then n else m)))) :=
  .bi2 hd hx hy fun w cs => by simp [builtin, Builtin.max_, Builtin.max2]
theorem AStep.min2 {x y : Operand} {T U : TypeId} {k : IntKind} {m n : Int} (hd : d < C.N) (hx : Ev C s x (.sc (.int k m))) (hy : Ev C s y (.sc (.int k n))) :
    AStep C ⟨some d, .call { callee := .builtin .min, args := #[x, y], argTypes := #[T, U] }, ty, p, e, g⟩ s (s.put d (.sc (.int k (if n < m then n else m)))) :=
  .bi2 hd hx hy fun w cs => by simp [builtin, Builtin.min_, Builtin.min2]

/-- an element by its number -/
def getIdx {α : Type} (xs : List α) (i : Int) : Option α := if 0 ≤ i then xs[i.toNat]? else none
theorem getIdx_nat {α : Type} (xs : List α) (k : Nat) : getIdx xs (k : Int) = xs[k]? := by simp [getIdx]
theorem getIdx_some {α : Type} {xs : List α} {i : Int} {y : α} (h : getIdx xs i = some y) : 0 ≤ i ∧ i < xs.length ∧ xs[i.toNat]? = some y := by
  unfold getIdx at h
  split at h
  · rename_i h0
    have := (List.getElem?_eq_some_iff.1 h).1
    exact ⟨h0, by omega, h⟩
  · cases h

theorem AStep.indexS {x i : Operand} {T : TypeId} {l : List UInt8} {k : IntKind} {j : Int} {c : UInt8} (hd : d < C.N) (hx : Ev C s x (.sc (.string (mkS l)))) (hi : Ev C s i (.sc (.int k j)))
    (hT : C.P.underlying T = some .string) (hc : getIdx l j = some c) : AStep C ⟨some d, .index T x i, ty, p, e, g⟩ s (s.put d (.sc (.int .u8 c.toNat))) :=
  .val hd (fun _ h => by cases h) fun ι a w r => by
    refine ⟨.int .u8 c.toNat, ?_, .sc _ _ _⟩
    obtain ⟨h0, h1, h2⟩ := getIdx_some hc
    have hlt : j.toNat < (mkS l).size := by rw [mkS_size]; omega
    have e : (mkS l)[j.toNat]? = some c := by
      rw [getElem?_pos (mkS l) j.toNat hlt]
      have : (mkS l)[j.toNat] = l[j.toNat]'(by rw [← mkS_size]; exact hlt) := rfl
      rw [this]
      rw [List.getElem?_eq_getElem (by omega)] at h2
      exact h2
    simp [execOp, hx.sc r, hi.sc r, Instr.index, asIntOf, run_underlying hT, h0, e]
theorem AStep.extract {x : Operand} {k : Nat} {vs : List AV} {v : AV} (hd : d < C.N) (hx : Ev C s x (.tup vs)) (hv : vs[k]? = some v) : AStep C ⟨some d, .extract x k, ty, p, e, g⟩ s (s.put d v) :=
  .val hd (fun _ h => by cases h) fun ι a w r => by
    have h := hx ι a w r
    generalize hu : a.eval x = u at h
    cases h with
    | tup _ _ _ us hl h =>
      have hk : k < vs.length := (List.getElem?_eq_some_iff.1 hv).1
      have hv' : vs[k] = v := by rw [List.getElem?_eq_getElem hk] at hv; exact Option.some.inj hv
      refine ⟨us[k]'(hl ▸ hk), ?_, hv' ▸ h k hk⟩
      simp [execOp, hu, Instr.extract, List.getElem?_eq_getElem (hl ▸ hk : k < us.length)]
end
end Go.AB
