/-
  AB, part 24: names of tags at a call; lists of fields; rows with forgotten cells ahead.
-/
import Derived.Test.YtpccmcepgllccaaAb23
namespace Go.AB
open Go
/-- tags for tags -/
def sgT (l : List (Nat × Nat)) (t : Nat) : Nat := match look t l with | some x => x | none => t

/-- a struct's fields: where they lie, how many cells each has -/
inductive SzL (P : Program) : List TypeId → List Nat → Prop
  | nil : SzL P [] []
  | cons {T : TypeId} {n : Nat} {Ts : List TypeId} {ns : List Nat} (h : szOf P T n) (t : SzL P Ts ns) : SzL P (T :: Ts) (n :: ns)
def offsOf (P : Program) (T : TypeId) (offs : List (Nat × Nat)) : Prop :=
  ∃ fs : Array Field, P.underlying T = some (.struct fs) ∧ fs.toList.map (·.offset) = offs.map (·.1) ∧ SzL P (fs.toList.map (·.type)) (offs.map (·.2))
theorem offsOf.run {P : Program} : ∀ {l : List Field} {offs : List (Nat × Nat)}, l.map (·.offset) = offs.map (·.1) → SzL P (l.map (·.type)) (offs.map (·.2)) → ∀ w,
    (l.mapM fun f => Functor.map (Prod.mk f.offset) (sizeOf f.type) : Sem (List (Nat × Nat))).run P w = .ok offs w
  | [], offs, h, _, w => by
    have : offs = [] := by simpa using h.symm
    subst this
    simp
  | f :: l, offs, h, hs, w => by
    match offs, h, hs with
    | (o, n) :: offs, h, hs =>
      simp only [List.map_cons, List.cons.injEq] at h
      cases hs with
      | cons h1 t =>
        rw [List.mapM_cons]
        have hz : (sizeOf f.type).run P w = .ok n w := h1.run w
        simp [hz, offsOf.run h.2 t, h.1]
section
variable {C : Ctx} {s : St} {d : Nat} {ty : TypeId} {p : String} {e : Array Edge} {g : Option (Nat × Bool)}
theorem AStep.buildO {T : TypeId} {parts : Array (Nat × Operand)} {vs : List (Nat × AV)} {z : List Value} {offs : List (Nat × Nat)} {out : List AV} (hd : d < C.N) (hev : EvL C s parts.toList vs) (hz : zeroT C.P T z)
    (ho : offsOf C.P T offs) (hout : fillA (fun i => offs[i]?) (z.map .sc) vs = some out) : AStep C ⟨some d, .build T parts, ty, p, e, g⟩ s (s.put d (.agg out)) := by
  obtain ⟨fs, hT, h1, h2⟩ := ho
  refine AStep.build hd hev hT hz (fun w => ?_) hout
  have := offsOf.run h1 h2 w
  rw [Array.mapM_eq_mapM_toList]
  simp [this]
end
theorem one_lit {vs : List AV} (h : vs.all AV.one = true) : ∀ v, v ∈ vs → v.one = true := List.all_eq_true.1 h
theorem still_lit {vs : List AV} (h : vs.all AV.still = true) : ∀ v, v ∈ vs → v.still = true := List.all_eq_true.1 h
end Go.AB
