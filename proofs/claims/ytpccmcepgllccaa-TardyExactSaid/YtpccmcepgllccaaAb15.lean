/-
  AB, part 15: what a model of a Go function is made of, and its rules.
-/
import Derived.Test.YtpccmcepgllccaaAb14
namespace Go.AB
open Go

theorem lt1 {d N : Nat} (h : Nat.blt d N = true) : d < N := by rwa [Nat.blt_eq] at h
theorem nm {t : Nat} {K : List Nat} (h : anyT K t = false) : t ∉ K := fun hm => by rw [anyT_iff.2 hm] at h; cases h

/-- go on if p holds -/
def asrt {α : Type} (p : Prop) [Decidable p] (k : Option α) : Option α := if p then k else none
theorem asrtS {α : Type} {p : Prop} [Decidable p] {k : Option α} {r : α} (h : asrt p k = some r) : p ∧ k = some r := by
  unfold asrt at h
  split at h
  · exact ⟨‹_›, h⟩
  · cases h
theorem asrt_pos {α : Type} {p : Prop} [Decidable p] {k : Option α} (h : p) : asrt p k = k := if_pos h
theorem bindS {α β : Type} {o : Option α} {k : α → Option β} {r : β} (h : o.bind k = some r) : ∃ y, o = some y ∧ k y = some r := Option.bind_eq_some_iff.1 h
theorem iteT {α : Type} {c : Bool} {a b : Option α} {r : α} (hc : c = true) (h : (if c = true then a else b) = some r) : a = some r := by rwa [if_pos hc] at h
theorem iteF {α : Type} {c : Bool} {a b : Option α} {r : α} (hc : c = false) (h : (if c = true then a else b) = some r) : b = some r := by rwa [if_neg (by simp [hc])] at h

/-- a loop's model: so many rounds at the most -/
def loopM {σ R : Type} (body : (σ → Option R) → σ → Option R) : Nat → σ → Option R
  | 0, _ => none
  | n + 1, x => body (loopM body n) x
theorem loopM_succ {σ R : Type} (body : (σ → Option R) → σ → Option R) (n : Nat) (x : σ) : loopM body (n + 1) x = body (loopM body n) x := rfl
/-- where ways meet: what comes then, once -/
def jn {α β : Type} (f : α) (g : α → β) : β := g f

/-- A loop by its model. -/
theorem AWP.loopM {C : Ctx} {Q : Exit → St → Prop} {c : Code} {σ R : Type} {body : (σ → Option R) → σ → Option R} {r : R} (S : σ → St)
    (step : ∀ (nx : σ → Option R) (x : σ), body nx x = some r → AWP C c (thn (fun s' => ∃ x', nx x' = some r ∧ VC C s' (S x')) Q) (S x))
    {n : Nat} {x : σ} (hx : Go.AB.loopM body n x = some r) : AWP C (.loop c) Q (S x) :=
  AWP.loop S (fun n x => Go.AB.loopM body n x = some r) (fun x h => by cases h) (fun n x h => step (Go.AB.loopM body n) x h) n x hx

/-- xs[lo:hi] -/
def slc {α : Type} (xs : List α) (lo hi : Int) : Option (List α) := if 0 ≤ lo ∧ lo ≤ hi ∧ hi ≤ xs.length then some ((xs.drop lo.toNat).take (hi.toNat - lo.toNat)) else none
theorem slcS {α : Type} {xs y : List α} {lo hi : Int} (h : slc xs lo hi = some y) : 0 ≤ lo ∧ lo ≤ hi ∧ hi ≤ xs.length ∧ y = (xs.drop lo.toNat).take (hi.toNat - lo.toNat) ∧ y.length = hi.toNat - lo.toNat := by
  unfold slc at h
  split at h
  · rename_i hc
    simp only [Option.some.injEq] at h
    refine ⟨hc.1, hc.2.1, hc.2.2, h.symm, ?_⟩
    rw [← h]
    simp
    omega
  · cases h
/-- xs[i] = y -/
def setIdx {α : Type} (xs : List α) (i : Int) (y : α) : Option (List α) := if 0 ≤ i ∧ i < xs.length then some (xs.set i.toNat y) else none
theorem setIdxS {α : Type} {xs ys : List α} {i : Int} {y : α} (h : setIdx xs i y = some ys) : 0 ≤ i ∧ i < xs.length ∧ ys = xs.set i.toNat y ∧ ys.length = xs.length := by
  unfold setIdx at h
  split at h
  · rename_i hc
    simp only [Option.some.injEq] at h
    exact ⟨hc.1, hc.2, h.symm, by rw [← h]; simp⟩
  · cases h
/-- append: what fits into any memory -/
def apd {α : Type} (xs ys : List α) : Option (List α) := if xs.length + ys.length ≤ 1099511627776 then some (xs ++ ys) else none
theorem apdS {α : Type} {xs ys zs : List α} (h : apd xs ys = some zs) : xs.length + ys.length ≤ 1099511627776 ∧ zs = xs ++ ys ∧ zs.length = xs.length + ys.length := by
  unfold apd at h
  split at h
  · simp only [Option.some.injEq] at h
    exact ⟨‹_›, h.symm, by rw [← h]; simp⟩
  · cases h
/-- make([]T, l, c), all of it zero -/
def mk {α : Type} (y0 : α) (l c : Int) : Option (List α) := if 0 ≤ l ∧ l ≤ c ∧ c ≤ 1099511627776 then some (List.replicate l.toNat y0) else none
theorem mkS' {α : Type} {y0 : α} {l c : Int} {zs : List α} (h : mk y0 l c = some zs) : 0 ≤ l ∧ l ≤ c ∧ c ≤ 1099511627776 ∧ zs = List.replicate l.toNat y0 ∧ zs.length = l.toNat := by
  unfold mk at h
  split at h
  · rename_i hc
    simp only [Option.some.injEq] at h
    exact ⟨hc.1, hc.2.1, hc.2.2, h.symm, by rw [← h]; simp⟩
  · cases h

/-- a bound of a slice expression: by default d -/
def BdI (C : Ctx) (s : St) (x : Option Operand) (d n : Int) : Prop := (x = none ∧ n = d) ∨ ∃ y k, x = some y ∧ Ev C s y (.sc (.int k n))
theorem BdI.none (C : Ctx) (s : St) (n : Int) : BdI C s .none n n := .inl ⟨rfl, rfl⟩
theorem BdI.some {C : Ctx} {s : St} {y : Operand} {k : IntKind} {j d : Int} (h : Ev C s y (.sc (.int k j))) : BdI C s (.some y) d j := .inr ⟨y, k, rfl, h⟩
theorem BdI.nat {C : Ctx} {s : St} {x : Option Operand} {d : Nat} {n : Int} (h : BdI C s x (d : Int) n) (h0 : 0 ≤ n) : Bd C s x d n.toNat := by
  rcases h with ⟨rfl, rfl⟩ | ⟨y, k, rfl, hy⟩
  · exact .inl ⟨rfl, by omega⟩
  · exact Bd.some hy h0

section
variable {C : Ctx} {d : Nat} {ty : TypeId} {p : String} {e : Array Edge} {g : Option (Nat × Bool)} {s : St}
theorem AStep.slRd {α : Type} {enc : α → List AV} {sz : Nat} {x : Operand} {lo hi : Option Operand} {T E : TypeId} {β : Bool} {xs y : List α} {n : Nat} {l h : Int} (hd : d < C.N)
    (hx : Ev C s x (.rd β n (xs.flatMap enc))) (hT : C.P.underlying T = some (.slice E)) (hE : szOf C.P E sz) (henc : ∀ y, (enc y).length = sz) (hn : n = xs.length)
    (hl : BdI C s lo 0 l) (hh : BdI C s hi xs.length h) (hy : slc xs l h = some y) :
    AStep C ⟨some d, .slice T x lo hi none, ty, p, e, g⟩ s (s.put d (.rd β y.length (y.flatMap enc))) := by
  obtain ⟨h1, h2, h3, rfl, h5⟩ := slcS hy
  subst hn
  have := AStep.sliceRd (ty := ty) (p := p) (e := e) (g := g) hd hx hT hE henc rfl (BdI.nat (d := 0) hl h1) (BdI.nat hh (by omega)) (by omega) (by omega)
  rw [h5]
  exact this
/-- an element of an owned row, by the model's word -/
theorem AStep.idxOwn {α : Type} {x i : Operand} {T E : TypeId} {t sz n : Nat} {k : IntKind} {j : Int} {xs : List α} {y : α} (hd : d < C.N)
    (hx : Ev C s x (.own t sz 0 n)) (hi : Ev C s i (.sc (.int k j))) (hT : C.P.underlying T = some (.slice E)) (hE : szOf C.P E sz) (hn : n = xs.length)
    (hy : getIdx xs j = some y) : AStep C ⟨some d, .indexAddr T x i, ty, p, e, g⟩ s (s.put d (.ptr t (0 + j.toNat * sz))) := by
  obtain ⟨h0, h1, _⟩ := getIdx_some hy
  exact AStep.indexOwn hd hx hi hT hE ⟨h0, by omega⟩
theorem AStep.idxArr {α : Type} {x i : Operand} {T E : TypeId} {t sz n : Nat} {k : IntKind} {j : Int} {xs : List α} {y : α} (hd : d < C.N)
    (hx : Ev C s x (.ptr t 0)) (hi : Ev C s i (.sc (.int k j))) (hT : C.P.underlying T = some (.array n E)) (hE : szOf C.P E sz) (hn : xs.length = n)
    (hy : getIdx xs j = some y) : AStep C ⟨some d, .indexAddr T x i, ty, p, e, g⟩ s (s.put d (.ptr t (0 + j.toNat * sz))) := by
  obtain ⟨h0, h1, _⟩ := getIdx_some hy
  exact AStep.indexArr hd hx hi hT hE ⟨h0, by omega⟩
/-- a cell of a row, by its element -/
theorem cell_at {α : Type} {enc : α → List AV} {sz : Nat} (henc : ∀ y, (enc y).length = sz) {xs : List α} {j : Int} {y : α} (hy : getIdx xs j = some y) {o : Nat} (ho : o < sz) : (xs.flatMap enc)[0 + j.toNat * sz + o]? = (enc y)[o]? := by
  obtain ⟨_, _, h⟩ := getIdx_some hy
  rw [Nat.zero_add]
  exact flatMap_at henc xs _ h o ho
theorem cell_at1 {α : Type} {enc : α → List AV} (henc : ∀ y, (enc y).length = 1) {xs : List α} {j : Int} {y : α} (hy : getIdx xs j = some y) : (xs.flatMap enc)[0 + j.toNat * 1]? = (enc y)[0]? := by
  have := cell_at henc hy (o := 0) (by omega)
  simpa using this
theorem setIdx_of {α : Type} {xs ys : List α} {j : Int} {y' : α} (h : setIdx xs j y' = some ys) : ∃ y, getIdx xs j = some y := by
  obtain ⟨h0, h1, _⟩ := setIdxS h
  refine ⟨xs[j.toNat]'(by omega), ?_⟩
  rw [getIdx, if_pos h0, List.getElem?_eq_getElem]
theorem set_at {α : Type} {enc : α → List AV} {sz : Nat} (henc : ∀ y, (enc y).length = sz) {xs ys : List α} {j : Int} {y y' : α} (hy : getIdx xs j = some y) (hs : setIdx xs j y' = some ys) {o : Nat} {v : AV} (ho : o < sz)
    (he : enc y' = (enc y).set o v) : ys.flatMap enc = (xs.flatMap enc).set (0 + j.toNat * sz + o) v := by
  obtain ⟨_, _, h⟩ := getIdx_some hy
  obtain ⟨_, _, rfl, _⟩ := setIdxS hs
  rw [Nat.zero_add]
  exact (flatMap_set henc y' xs _ y h o v he ho).symm
theorem set_at1 {α : Type} {enc : α → List AV} (henc : ∀ y, (enc y).length = 1) {xs ys : List α} {j : Int} {y' : α} (hs : setIdx xs j y' = some ys) {v : AV} (he : enc y' = [v]) :
    ys.flatMap enc = (xs.flatMap enc).set (0 + j.toNat * 1) v := by
  obtain ⟨y, hy⟩ := setIdx_of hs
  have h1 := henc y
  have := set_at henc hy hs (o := 0) (v := v) (by omega) (by
    rw [he]
    match h2 : enc y, h1 with
    | [a], _ => rfl)
  simpa using this
theorem lt_at {α : Type} {enc : α → List AV} {sz : Nat} (henc : ∀ y, (enc y).length = sz) {xs : List α} {j : Int} {y : α} (hy : getIdx xs j = some y) {o : Nat} (ho : o < sz) : 0 + j.toNat * sz + o < (xs.flatMap enc).length := by
  obtain ⟨h0, h1, _⟩ := getIdx_some hy
  rw [flatMap_length henc]
  have : (j.toNat + 1) * sz ≤ xs.length * sz := Nat.mul_le_mul_right _ (by omega)
  rw [Nat.add_mul] at this
  omega
theorem lt_at1 {α : Type} {enc : α → List AV} (henc : ∀ y, (enc y).length = 1) {xs : List α} {j : Int} {y : α} (hy : getIdx xs j = some y) : 0 + j.toNat * 1 < (xs.flatMap enc).length := by
  have := lt_at henc hy (o := 0) (by omega)
  simpa using this

/-- one-cell rows: forms of append -/
theorem AStep.app {α : Type} {enc : α → List AV} {x y : Operand} {T U E : TypeId} {t sz by_ n m : Nat} {xs ys zs : List α} (hd : d < C.N) (hK : t ∉ C.K) (hx : Ev C s x (.own t sz 0 n)) (hy : Src C s y sz m (ys.flatMap enc))
    (hT : C.P.underlying T = some (.slice E)) (hU : ∃ D, C.P.underlying U = some D ∧ ∀ k, D ≠ .int k) (hE : elT C.P E sz by_) (hk : look t s.heap = some ⟨E, true, xs.flatMap enc⟩)
    (henc : ∀ y, (enc y).length = sz) (hn : n = xs.length) (hm : m = ys.length) (hb : by_ ≤ 128) (hz : apd xs ys = some zs) :
    AStep C ⟨some d, .call { callee := .builtin .append, args := #[x, y], argTypes := #[T, U] }, ty, p, e, g⟩ s (s.newP d t ⟨E, true, zs.flatMap enc⟩ (.own t sz 0 zs.length)) := by
  obtain ⟨h1, rfl, h3⟩ := apdS hz
  subst hn hm
  have hbytes : (xs.length + ys.length) * by_ ≤ 140737488355328 := by
    have : (xs.length + ys.length) * by_ ≤ 1099511627776 * 128 := Nat.mul_le_mul h1 hb
    omega
  have := AStep.append (ty := ty) (p := p) (e := e) (g := g) hd hK hx hy hT hU hE hk (flatMap_length henc xs) (by simp only [maxLen]; omega) hbytes
  rw [h3, List.flatMap_append]
  exact this
theorem AStep.mkS {α : Type} {enc : α → List AV} {y0 : α} {x y : Operand} {T E : TypeId} {t sz by_ : Nat} {z : List Value} {k k' : IntKind} {l c : Int} {zs : List α} (hd : d < C.N) (hK : t ∉ C.K)
    (hx : Ev C s x (.sc (.int k l))) (hy : Ev C s y (.sc (.int k' c))) (hT : C.P.underlying T = some (.slice E)) (hz : zeroT C.P E z) (hE : elT C.P E sz by_) (h0 : enc y0 = z.map .sc)
    (henc : ∀ y, (enc y).length = sz) (hb : by_ ≤ 128) (hm : mk y0 l c = some zs) :
    AStep C ⟨some d, .makeSlice T x y, ty, p, e, g⟩ s (s.newP d t ⟨E, true, zs.flatMap enc⟩ (.own t sz 0 zs.length)) := by
  obtain ⟨h1, h2, h3, rfl, h5⟩ := mkS' hm
  have hbc : (by_ : Int) * c ≤ 128 * 1099511627776 := Int.mul_le_mul (by omega) h3 (by omega) (by omega)
  rw [h5]
  exact AStep.make hd hK hx hy hT hz hE h0 henc h1 h2 (by omega) (by omega)
end

/-- rows whose cells are plain -/
theorem one_all {α : Type} {enc : α → List AV} (h : ∀ y, ∀ c, c ∈ enc y → c.one = true) (xs : List α) : ∀ c, c ∈ xs.flatMap enc → c.one = true := by
  intro c hc; obtain ⟨y, _, hy⟩ := List.mem_flatMap.1 hc; exact h y c hy
theorem scal_all {α : Type} {enc : α → List AV} (h : ∀ y, ∀ c, c ∈ enc y → c.scal = true) (xs : List α) : ∀ c, c ∈ xs.flatMap enc → c.scal = true := by
  intro c hc; obtain ⟨y, _, hy⟩ := List.mem_flatMap.1 hc; exact h y c hy
theorem enc8_one (y : UInt8) : ∀ c, c ∈ enc8 y → c.one = true := by intro c hc; simp [enc8] at hc; subst hc; rfl
theorem enc8_scal (y : UInt8) : ∀ c, c ∈ enc8 y → c.scal = true := by intro c hc; simp [enc8] at hc; subst hc; rfl
theorem encI_one (k : IntKind) (y : Int) : ∀ c, c ∈ encI k y → c.one = true := by intro c hc; simp [encI] at hc; subst hc; rfl
theorem encI_scal (k : IntKind) (y : Int) : ∀ c, c ∈ encI k y → c.scal = true := by intro c hc; simp [encI] at hc; subst hc; rfl
theorem encB_one (y : Bool) : ∀ c, c ∈ encB y → c.one = true := by intro c hc; simp [encB] at hc; subst hc; rfl
theorem encB_scal (y : Bool) : ∀ c, c ∈ encB y → c.scal = true := by intro c hc; simp [encB] at hc; subst hc; rfl

/-- a byte out of an integer -/
def b8 (n : Int) : UInt8 := UInt8.ofNat (n % 256).toNat
theorem b8_wrap (n : Int) : ((b8 (IntKind.wrap .u8 n)).toNat : Int) = IntKind.wrap .u8 n := by
  simp [b8, IntKind.wrap, IntKind.bits, IntKind.signed]
  omega
theorem b8_toNat (c : UInt8) : b8 (c.toNat : Int) = c := by
  have := c.toNat_lt
  simp only [b8]
  rw [show ((c.toNat : Int) % 256).toNat = c.toNat by omega]
  simp
end Go.AB
