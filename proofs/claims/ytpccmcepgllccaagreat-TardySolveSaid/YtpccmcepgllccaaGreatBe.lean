import Derived.Test.YtpccmcepgllccaaGreatBd
import Derived.Laws.CopyRow
import Derived.Laws.IdiomCopy
namespace Go.AB
open Go
abbrev cxY (P : Program) (N : Nat) (K : List Nat) (ι0 : Tags) (d : ItD) : Ctx := ⟨P,none,N,[],d.w0,d.Zs,d.Zb,d.T0,K,ι0⟩
section
variable {E X : Type} {P : Program} {N : Nat} {K : List Nat} {ι0 : Tags} {xs tail : List E} {xf : X} {Zs Zb : Nat → Prop} {J : List E → (Nat → Prop) → (Nat → Prop) → World → Prop} {Jx : (Nat → Prop) → (Nat → Prop) → World → Prop}
end
section
variable {R ω : Type} {φ : Fam (Option R)} {A : Array Oper} {l : List Oper} {g : Option R} {s s1 s2 : St} {OK : ω → Prop} {S : ω → Option R × St}
end
section
variable {E X : Type} {P : Program} {N : Nat} {K : List Nat} {ι0 : Tags} {xs tail : List E} {xf : X} {Zs Zb : Nat → Prop} {J : List E → (Nat → Prop) → (Nat → Prop) → World → Prop} {Jx : (Nat → Prop) → (Nat → Prop) → World → Prop}
structure KeepJ (own rest : Nat → Prop) (zo : Bool → Nat → Prop) (I0 : Nat → Prop) (w : World) (J : (Nat → Prop) → (Nat → Prop) → World → Prop) (O I : Nat → Prop) (W : World) : Prop where
  j : J (fun b => O b ∨ rest b) (fun b => I b ∨ I0 b) W
  kept : Kept (fun b => rest b ∨ zo false b ∨ zo true b) w W
  oo : ∀ b,O b → own b ∨ w.heap.size ≤ b
  oi : ∀ b,I b → own b ∨ w.heap.size ≤ b
end
section
variable {F : Fence} {n : Nat} {P : Program} {Q : Exit → Act → World → Prop} {l : List Oper} {b : Nat}
end
section
variable {F : Fence} {n : Nat} {P : Program} {ops : Array Oper} {md : Region.Mode}
end
section
variable {E X : Type} {P : Program} {N : Nat} {K : List Nat} {ι0 : Tags} {xs tail : List E} {xf : X} {Zs Zb : Nat → Prop} {J : List E → (Nat → Prop) → (Nat → Prop) → World → Prop} {Jx : (Nat → Prop) → (Nat → Prop) → World → Prop} {A : Array Oper} {ol : List Oper} {s : St}
end
section
variable {R X1 : Type} {φ : Fam (Option R)} {g : Option R} {s s1 : St} {Q : Exit → Option R → St → Prop} {id b : Nat} {l : List Oper} {q : R}
end
end Go.AB
namespace Go.AB
open Go
section
variable {C : Ctx} {d : Nat} {ty : TypeId} {p : String} {e : Array Edge} {g : Option (Nat × Bool)} {s : St}
end
section
variable {C : Ctx} {d : Nat} {ty : TypeId} {p : String} {e : Array Edge} {g : Option (Nat × Bool)} {s : St}
end
section
variable {C : Ctx} {d : Nat} {ty : TypeId} {p : String} {e : Array Edge} {g : Option (Nat × Bool)} {s : St}
end
section
variable {C : Ctx} {d : Nat} {ty : TypeId} {p : String} {e : Array Edge} {g : Option (Nat × Bool)} {s : St}
end
section
variable {C : Ctx} {d : Nat} {ty : TypeId} {p : String} {e : Array Edge} {g : Option (Nat × Bool)} {s : St}
end
end Go.AB
set_option linter.unusedVariables false
namespace Go.AB
open Go
section
variable {C : Ctx} {d : Nat} {ty : TypeId} {p : String} {e : Array Edge} {g : Option (Nat × Bool)} {s : St}
theorem AStep.indexRdC {α : Type} {enc : α → List AV} {sz : Nat} {x i : Operand} {T E : TypeId} {β : Bool} {xs : List α} {n : Nat} {k : IntKind} {j : Int} {y : α} {cs : List AV} (hd : d < C.N)
    (hx : Ev C s x (.rd β n (xs.flatMap enc))) (hi : Ev C s i (.sc (.int k j))) (hT : C.P.underlying T = some (.slice E)) (hE : szOf C.P E sz) (henc : ∀ y,(enc y).length = sz)
    (hn : n = xs.length) (hy : getIdx xs j = some y) (hc : enc y = cs) : AStep C ⟨some d,.indexAddr T x i,ty,p,e,g⟩ s (s.put d (.rptr β cs)) := by
  subst hc
  exact AStep.indexRd hd hx hi hT hE henc hn hy
def apk {α : Type} (xs ys : List α) : Option (List α) := if xs.length + ys.length ≤ 2513169434916 then some (xs ++ ys) else none
theorem apkS {α : Type} {xs ys zs : List α} (h : apk xs ys = some zs) : xs.length + ys.length ≤ 2513169434916 ∧ zs = xs ++ ys ∧ zs.length = xs.length + ys.length := by
  unfold apk at h
  split at h
  · rename_i hc
    simp only [Option.some.injEq] at h
    exact ⟨hc,h.symm,by rw [← h]; simp⟩
  · cases h
theorem AStep.appK {α : Type} {enc : α → List AV} {x y : Operand} {T U E : TypeId} {t sz by_ n m : Nat} {xs ys zs : List α} (hd : d < C.N) (hK : t ∉ C.K) (hx : Ev C s x (.own t sz 0 n)) (hy : Src C s y sz m (ys.flatMap enc))
    (hT : C.P.underlying T = some (.slice E)) (hU : ∃ D,C.P.underlying U = some D ∧ ∀ k,D ≠ .int k) (hE : elT C.P E sz by_) (hk : look t s.heap = some ⟨E,true,xs.flatMap enc⟩)
    (henc : ∀ y,(enc y).length = sz) (hn : n = xs.length) (hm : m = ys.length) (hb : by_ ≤ 56) (hz : apk xs ys = some zs) :
    AStep C ⟨some d,.call { callee := .builtin .append,args := #[x,y],argTypes := #[T,U] },ty,p,e,g⟩ s (s.newP d t ⟨E,true,zs.flatMap enc⟩ (.own t sz 0 zs.length)) := by
  obtain ⟨h1,rfl,h3⟩ := apkS hz
  subst hn hm
  have hbytes : (xs.length + ys.length) * by_ ≤ 140737488355328 := by
    have : (xs.length + ys.length) * by_ ≤ 2513169434916 * 56 := Nat.mul_le_mul h1 hb
    omega
  have := AStep.append (ty := ty) (p := p) (e := e) (g := g) hd hK hx hy hT hU hE hk (flatMap_length henc xs) (by simp only [maxLen]; omega) hbytes
  rw [h3,List.flatMap_append]
  exact this
end
end Go.AB
