import Derived.TacticsIn
import Derived.DefersIn
import Derived.OwnWalkIn
import Derived.Laws.AppendOwn
import Derived.Laws.MakeOwn
import Derived.WalkKit
namespace Go.AB
open Go
abbrev Fc (r : Option Nat) : Fence := { fn := fun _ => True,depth := none,alive := false,round := r }
inductive AV where
  | sc (v : Value)
  | rd (β : Bool) (n : Nat) (cells : List AV)
  | rdx (β : Bool) (n : Nat) (cells : List AV)
  | own (t sz off n : Nat)
  | ownc (t sz n c : Nat)
  | ptr (t off : Nat)
  | rptr (β : Bool) (cells : List AV)
  | agg (cells : List AV)
  | tup (vs : List AV)
  | clo (fn : Go.Fn) (first captured : List AV)
  | gd (c : Bool) (v : AV)
  | any
def AV.scal : AV → Bool
  | .sc _ => true
  | _ => false
mutual
def AV.free (t : Nat) : AV → Bool
  | .own t' _ _ _ => t' != t
  | .ownc t' _ _ _ => t' != t
  | .ptr t' _ => t' != t
  | .agg cs => AV.freeL t cs
  | .tup cs => AV.freeL t cs
  | .clo _ a b => AV.freeL t a && AV.freeL t b
  | .gd _ v => AV.free t v
  | _ => true
def AV.freeL (t : Nat) : List AV → Bool
  | [] => true
  | a :: l => AV.free t a && AV.freeL t l
end
mutual
def AV.flag (β : Bool) : AV → AV
  | .rd _ n cs => .rd β n cs
  | .rptr _ cs => .rptr β cs
  | .rdx _ n cs => .rdx β n cs
  | .agg cs => .agg (AV.flagL β cs)
  | .tup cs => .tup (AV.flagL β cs)
  | .clo f a b => .clo f (AV.flagL β a) (AV.flagL β b)
  | .gd c v => .gd c (AV.flag β v)
  | a => a
def AV.flagL (β : Bool) : List AV → List AV
  | [] => []
  | a :: l => AV.flag β a :: AV.flagL β l
end
mutual
def AV.clean : AV → Bool
  | .rd β _ _ => !β
  | .rptr β _ => !β
  | .rdx β _ _ => !β
  | .agg cs => AV.cleanL cs
  | .tup cs => AV.cleanL cs
  | .clo _ a b => AV.cleanL a && AV.cleanL b
  | .gd _ v => AV.clean v
  | _ => true
def AV.cleanL : List AV → Bool
  | [] => true
  | a :: l => AV.clean a && AV.cleanL l
end
mutual
def AV.ren (σ : Nat → Nat) : AV → AV
  | .own t sz off n => .own (σ t) sz off n
  | .ownc t sz n c => .ownc (σ t) sz n c
  | .ptr t off => .ptr (σ t) off
  | .agg cs => .agg (AV.renL σ cs)
  | .tup cs => .tup (AV.renL σ cs)
  | .clo f a b => .clo f (AV.renL σ a) (AV.renL σ b)
  | .gd c v => .gd c (AV.ren σ v)
  | a => a
def AV.renL (σ : Nat → Nat) : List AV → List AV
  | [] => []
  | a :: l => AV.ren σ a :: AV.renL σ l
end
theorem AV.flagL_eq (β : Bool) (l : List AV) : AV.flagL β l = l.map (AV.flag β) := by
  induction l with
  | nil => simp [AV.flagL]
  | cons a l ih => simp [AV.flagL,ih]
theorem AV.renL_eq (σ : Nat → Nat) (l : List AV) : AV.renL σ l = l.map (AV.ren σ) := by
  induction l with
  | nil => simp [AV.renL]
  | cons a l ih => simp [AV.renL,ih]
theorem AV.freeL_eq (t : Nat) (l : List AV) : AV.freeL t l = l.all (AV.free t) := by
  induction l with
  | nil => simp [AV.freeL]
  | cons a l ih => simp [AV.freeL,ih]
theorem AV.cleanL_eq (l : List AV) : AV.cleanL l = l.all AV.clean := by
  induction l with
  | nil => simp [AV.cleanL]
  | cons a l ih => simp [AV.cleanL,ih]
def bsz (w : World) (b : Nat) : Option Nat :=
  match w.heap[b]? with
  | some (.cells c _ _) => some c.size
  | _ => none
abbrev Zone := Bool → Nat → Prop
abbrev Tags := Nat → Option Nat
inductive VR (w : World) : Zone → Tags → AV → Value → Prop
  | sc (Z : Zone) (ι : Tags) (v : Value) : VR w Z ι (.sc v) v
  | rdnil (Z : Zone) (ι : Tags) (β : Bool) (a : Option Addr) : VR w Z ι (.rd β 0 []) (.slice a 0 0)
  | rd (Z : Zone) (ι : Tags) (β : Bool) (n : Nat) (cells : List AV) (b off cap : Nat) (vs : Nat → Value) (hz : cells ≠ [] → Z β b) (hn : n ≤ cap) (hc : cap ≤ maxLen)
      (hv : ∀ i,i < cells.length → w.cell? ⟨b,off + i,none⟩ = some (vs i)) (h : ∀ i (hi : i < cells.length),VR w (fun _ => Z β) (fun _ => none) (cells[i]'hi) (vs i)) :
      VR w Z ι (.rd β n cells) (.slice (some ⟨b,off,none⟩) n cap)
  | rdx (Z : Zone) (ι : Tags) (β : Bool) (n : Nat) (cells : List AV) (b off : Nat) (vs : Nat → Value) (hz : cells ≠ [] → Z β b) (hc : n ≤ maxLen)
      (hv : ∀ i,i < cells.length → w.cell? ⟨b,off + i,none⟩ = some (vs i)) (h : ∀ i (hi : i < cells.length),VR w (fun _ => Z β) (fun _ => none) (cells[i]'hi) (vs i)) :
      VR w Z ι (.rdx β n cells) (.slice (some ⟨b,off,none⟩) n n)
  | rdxnil (Z : Zone) (ι : Tags) (β : Bool) (a : Option Addr) : VR w Z ι (.rdx β 0 []) (.slice a 0 0)
  | ownnil (Z : Zone) (ι : Tags) (t sz off : Nat) : VR w Z ι (.own t sz off 0) (.slice none 0 0)
  | ownz (Z : Zone) (ι : Tags) (t sz off b o : Nat) : VR w Z ι (.own t sz off 0) (.slice (some ⟨b,o,none⟩) 0 0)
  | own (Z : Zone) (ι : Tags) (t sz off n b cap s : Nat) (ht : ι t = some b) (hn : n ≤ cap) (hc : cap ≤ maxLen) (hs : bsz w b = some s) (ho : off + cap * sz ≤ s) :
      VR w Z ι (.own t sz off n) (.slice (some ⟨b,off,none⟩) n cap)
  | ownc (Z : Zone) (ι : Tags) (t sz n b c s : Nat) (ht : ι t = some b) (hn : n ≤ c) (hc : c ≤ maxLen) (hs : bsz w b = some s) (ho : c * sz ≤ s) :
      VR w Z ι (.ownc t sz n c) (.slice (some ⟨b,0,none⟩) n c)
  | ptr (Z : Zone) (ι : Tags) (t off b : Nat) (ht : ι t = some b) : VR w Z ι (.ptr t off) (.pointer (some ⟨b,off,none⟩))
  | rptr (Z : Zone) (ι : Tags) (β : Bool) (cells : List AV) (b off : Nat) (vs : Nat → Value) (hz : cells ≠ [] → Z β b)
      (hv : ∀ i,i < cells.length → w.cell? ⟨b,off + i,none⟩ = some (vs i)) (h : ∀ i (hi : i < cells.length),VR w (fun _ => Z β) (fun _ => none) (cells[i]'hi) (vs i)) :
      VR w Z ι (.rptr β cells) (.pointer (some ⟨b,off,none⟩))
  | agg (Z : Zone) (ι : Tags) (cells : List AV) (vs : List Value) (hl : vs.length = cells.length) (h : ∀ i (hi : i < cells.length),VR w Z ι (cells[i]'hi) (vs[i]'(hl ▸ hi))) :
      VR w Z ι (.agg cells) (.agg vs.toArray)
  | tup (Z : Zone) (ι : Tags) (cells : List AV) (vs : List Value) (hl : vs.length = cells.length) (h : ∀ i (hi : i < cells.length),VR w Z ι (cells[i]'hi) (vs[i]'(hl ▸ hi))) :
      VR w Z ι (.tup cells) (.tuple vs.toArray)
  | clo (Z : Zone) (ι : Tags) (f : Go.Fn) (a c : List AV) (us vs : List Value) (hu : us.length = a.length) (hl : vs.length = c.length)
      (h1 : ∀ i (hi : i < a.length),VR w Z ι (a[i]'hi) (us[i]'(hu ▸ hi))) (h2 : ∀ i (hi : i < c.length),VR w Z ι (c[i]'hi) (vs[i]'(hl ▸ hi))) :
      VR w Z ι (.clo f a c) (.func f us.toArray vs.toArray)
  | gd (Z : Zone) (ι : Tags) (c : Bool) (x : AV) (v : Value) (h : c = true → VR w Z ι x v) (hu : c = false → v = undef) : VR w Z ι (.gd c x) v
  | any (Z : Zone) (ι : Tags) (v : Value) : VR w Z ι .any v
theorem VR.mono {w w' : World} (hsz : ∀ b n,bsz w b = some n → bsz w' b = some n) {Z : Zone} {ι : Tags} {a : AV} {v : Value} (h : VR w Z ι a v) :
    ∀ (Z' : Zone) (ι' : Tags),(∀ β b,Z β b → Z' β b) → (∀ β b o u,Z β b → w.cell? ⟨b,o,none⟩ = some u → w'.cell? ⟨b,o,none⟩ = some u) →
      (∀ t b,AV.free t a = false → ι t = some b → ι' t = some b) → VR w' Z' ι' a v := by
  induction h with
  | sc Z ι v => intro Z' ι' _ _ _; exact .sc _ _ _
  | rdnil Z ι β a0 => intro Z' ι' _ _ _; exact .rdnil _ _ _ _
  | rd Z ι β n cells b off cap vs hz hn hc hv h ih =>
    intro Z' ι' hZ hcell _
    refine .rd _ _ β n cells b off cap vs (fun hne => hZ _ _ (hz hne)) hn hc ?_ ?_
    · intro i hi
      exact hcell β b _ _ (hz (by intro e; subst e; simp at hi)) (hv i hi)
    · intro i hi
      exact ih i hi (fun _ => Z' β) (fun _ => none) (fun _ b' hb => hZ _ _ hb) (fun _ b' o u hb => hcell β b' o u hb) (fun _ _ _ h => h)
  | rdx Z ι β n cells b off vs hz hc hv h ih =>
    intro Z' ι' hZ hcell _
    refine .rdx _ _ β n cells b off vs (fun hne => hZ _ _ (hz hne)) hc ?_ ?_
    · intro i hi
      exact hcell β b _ _ (hz (by intro e; subst e; simp at hi)) (hv i hi)
    · intro i hi
      exact ih i hi (fun _ => Z' β) (fun _ => none) (fun _ b' hb => hZ _ _ hb) (fun _ b' o u hb => hcell β b' o u hb) (fun _ _ _ h => h)
  | rdxnil Z ι β a0 => intro Z' ι' _ _ _; exact .rdxnil _ _ _ _
  | ownnil Z ι t sz off => intro Z' ι' _ _ _; exact .ownnil _ _ _ _ _
  | ownz Z ι t sz off b o => intro Z' ι' _ _ _; exact .ownz _ _ _ _ _ _ _
  | own Z ι t sz off n b cap s ht hn hc hs ho =>
    intro Z' ι' _ _ hι; exact .own _ _ _ _ _ _ b cap s (hι t b (by simp [AV.free]) ht) hn hc (hsz _ _ hs) ho
  | ownc Z ι t sz n b c s ht hn hc hs ho =>
    intro Z' ι' _ _ hι; exact .ownc _ _ _ _ _ b c s (hι t b (by simp [AV.free]) ht) hn hc (hsz _ _ hs) ho
  | ptr Z ι t off b ht => intro Z' ι' _ _ hι; exact .ptr _ _ _ _ b (hι t b (by simp [AV.free]) ht)
  | rptr Z ι β cells b off vs hz hv h ih =>
    intro Z' ι' hZ hcell _
    refine .rptr _ _ β cells b off vs (fun hne => hZ _ _ (hz hne)) ?_ ?_
    · intro i hi
      exact hcell β b _ _ (hz (by intro e; subst e; simp at hi)) (hv i hi)
    · intro i hi
      exact ih i hi (fun _ => Z' β) (fun _ => none) (fun _ b' hb => hZ _ _ hb) (fun _ b' o u hb => hcell β b' o u hb) (fun _ _ _ h => h)
  | agg Z ι cells vs hl h ih =>
    intro Z' ι' hZ hcell hι
    refine .agg _ _ _ _ hl fun i hi => ih i hi Z' ι' hZ hcell fun t b ht => hι t b ?_
    simp only [AV.free,AV.freeL_eq,List.all_eq_false]
    exact ⟨_,List.getElem_mem hi,by simp [ht]⟩
  | tup Z ι cells vs hl h ih =>
    intro Z' ι' hZ hcell hι
    refine .tup _ _ _ _ hl fun i hi => ih i hi Z' ι' hZ hcell fun t b ht => hι t b ?_
    simp only [AV.free,AV.freeL_eq,List.all_eq_false]
    exact ⟨_,List.getElem_mem hi,by simp [ht]⟩
  | clo Z ι f a c us vs hu hl h1 h2 ih1 ih2 =>
    intro Z' ι' hZ hcell hι
    refine .clo _ _ _ _ _ _ _ hu hl (fun i hi => ih1 i hi Z' ι' hZ hcell fun t b ht => hι t b ?_) (fun i hi => ih2 i hi Z' ι' hZ hcell fun t b ht => hι t b ?_)
    · have : AV.freeL t a = false := by
        rw [AV.freeL_eq,List.all_eq_false]
        exact ⟨_,List.getElem_mem hi,by simp [ht]⟩
      simp [AV.free,this]
    · have : AV.freeL t c = false := by
        rw [AV.freeL_eq,List.all_eq_false]
        exact ⟨_,List.getElem_mem hi,by simp [ht]⟩
      simp [AV.free,this]
  | gd Z ι c x v h hu ih => intro Z' ι' hZ hcell hι; exact .gd _ _ _ _ _ (fun hc => ih hc Z' ι' hZ hcell fun t b ht => hι t b (by simpa [AV.free] using ht)) hu
  | any Z ι v => intro Z' ι' _ _ _; exact .any _ _ _
theorem VR.flagged {w : World} {Z : Zone} {ι : Tags} {a : AV} {v : Value} (h : VR w Z ι a v) :
    ∀ (Z' : Zone) (ι' : Tags) (β : Bool),(∀ γ b,Z γ b → Z' β b) → (∀ t b,AV.free t a = false → ι t = some b → ι' t = some b) → VR w Z' ι' (a.flag β) v := by
  induction h with
  | sc Z ι v => intro Z' ι' β _ _; exact .sc _ _ _
  | rdnil Z ι β a0 => intro Z' ι' β _ _; exact .rdnil _ _ _ _
  | rd Z ι γ n cells b off cap vs hz hn hc hv h ih =>
    intro Z' ι' β hZ _
    refine .rd _ _ β n cells b off cap vs (fun hne => hZ _ _ (hz hne)) hn hc hv fun i hi => (h i hi).mono (fun _ _ h => h) _ _ (fun _ b' hb => hZ _ _ hb) (fun _ _ _ _ _ h => h) (fun _ _ _ h => h)
  | rdx Z ι γ n cells b off vs hz hc hv h ih =>
    intro Z' ι' β hZ _
    refine .rdx _ _ β n cells b off vs (fun hne => hZ _ _ (hz hne)) hc hv fun i hi => (h i hi).mono (fun _ _ h => h) _ _ (fun _ b' hb => hZ _ _ hb) (fun _ _ _ _ _ h => h) (fun _ _ _ h => h)
  | rdxnil Z ι γ a0 => intro Z' ι' β _ _; exact .rdxnil _ _ _ _
  | ownnil Z ι t sz off => intro Z' ι' β _ _; exact .ownnil _ _ _ _ _
  | ownz Z ι t sz off b o => intro Z' ι' β _ _; exact .ownz _ _ _ _ _ _ _
  | own Z ι t sz off n b cap s ht hn hc hs ho => intro Z' ι' β _ hι; exact .own _ _ _ _ _ _ b cap s (hι t b (by simp [AV.free]) ht) hn hc hs ho
  | ownc Z ι t sz n b c s ht hn hc hs ho => intro Z' ι' β _ hι; exact .ownc _ _ _ _ _ b c s (hι t b (by simp [AV.free]) ht) hn hc hs ho
  | ptr Z ι t off b ht => intro Z' ι' β _ hι; exact .ptr _ _ _ _ b (hι t b (by simp [AV.free]) ht)
  | rptr Z ι γ cells b off vs hz hv h ih =>
    intro Z' ι' β hZ _
    exact .rptr _ _ β cells b off vs (fun hne => hZ _ _ (hz hne)) hv fun i hi => (h i hi).mono (fun _ _ h => h) _ _ (fun _ b' hb => hZ _ _ hb) (fun _ _ _ _ _ h => h) (fun _ _ _ h => h)
  | agg Z ι cells vs hl h ih =>
    intro Z' ι' β hZ hι
    have hl' : vs.length = (AV.flagL β cells).length := by rw [AV.flagL_eq]; simpa using hl
    refine .agg _ _ _ _ hl' fun i hi => ?_
    have hi' : i < cells.length := by rw [AV.flagL_eq] at hi; simpa using hi
    have e : (AV.flagL β cells)[i]'hi = AV.flag β (cells[i]'hi') := by simp [AV.flagL_eq]
    rw [e]
    refine ih i hi' Z' ι' β hZ fun t b ht => hι t b ?_
    simp only [AV.free,AV.freeL_eq,List.all_eq_false]
    exact ⟨_,List.getElem_mem hi',by simp [ht]⟩
  | tup Z ι cells vs hl h ih =>
    intro Z' ι' β hZ hι
    have hl' : vs.length = (AV.flagL β cells).length := by rw [AV.flagL_eq]; simpa using hl
    refine .tup _ _ _ _ hl' fun i hi => ?_
    have hi' : i < cells.length := by rw [AV.flagL_eq] at hi; simpa using hi
    have e : (AV.flagL β cells)[i]'hi = AV.flag β (cells[i]'hi') := by simp [AV.flagL_eq]
    rw [e]
    refine ih i hi' Z' ι' β hZ fun t b ht => hι t b ?_
    simp only [AV.free,AV.freeL_eq,List.all_eq_false]
    exact ⟨_,List.getElem_mem hi',by simp [ht]⟩
  | clo Z ι f a c us vs hu hl h1 h2 ih1 ih2 =>
    intro Z' ι' β hZ hι
    have hu' : us.length = (AV.flagL β a).length := by rw [AV.flagL_eq]; simpa using hu
    have hl' : vs.length = (AV.flagL β c).length := by rw [AV.flagL_eq]; simpa using hl
    refine .clo _ _ _ _ _ _ _ hu' hl' (fun i hi => ?_) (fun i hi => ?_)
    · have hi' : i < a.length := by rw [AV.flagL_eq] at hi; simpa using hi
      have e : (AV.flagL β a)[i]'hi = AV.flag β (a[i]'hi') := by simp [AV.flagL_eq]
      rw [e]
      refine ih1 i hi' Z' ι' β hZ fun t b ht => hι t b ?_
      have : AV.freeL t a = false := by
        rw [AV.freeL_eq,List.all_eq_false]
        exact ⟨_,List.getElem_mem hi',by simp [ht]⟩
      simp [AV.free,this]
    · have hi' : i < c.length := by rw [AV.flagL_eq] at hi; simpa using hi
      have e : (AV.flagL β c)[i]'hi = AV.flag β (c[i]'hi') := by simp [AV.flagL_eq]
      rw [e]
      refine ih2 i hi' Z' ι' β hZ fun t b ht => hι t b ?_
      have : AV.freeL t c = false := by
        rw [AV.freeL_eq,List.all_eq_false]
        exact ⟨_,List.getElem_mem hi',by simp [ht]⟩
      simp [AV.free,this]
  | gd Z ι c x v h hu ih => intro Z' ι' β hZ hι; exact .gd _ _ _ _ _ (fun hc => ih hc Z' ι' β hZ fun t b ht => hι t b (by simpa [AV.free] using ht)) hu
  | any Z ι v => intro Z' ι' β _ _; exact .any _ _ _
end Go.AB
namespace Go.AB
open Go
structure Blk where
  ty : TypeId
  lst : Bool
  cells : List AV
structure St where
  env : List (Nat × AV)
  heap : List (Nat × Blk)
def look {α : Type} (t : Nat) : List (Nat × α) → Option α
  | [] => none
  | (k,v) :: l => bif Nat.beq t k then some v else look t l
def has {α : Type} (t : Nat) (l : List (Nat × α)) : Prop := ∃ v,look t l = some v
theorem look_cons_self {α : Type} (t : Nat) (v : α) (l : List (Nat × α)) : look t ((t,v) :: l) = some v := by simp [look]
theorem look_cons_ne {α : Type} {t k : Nat} (h : t ≠ k) (v : α) (l : List (Nat × α)) : look t ((k,v) :: l) = look t l := by
  have : Nat.beq t k = false := by rw [← Bool.not_eq_true,Nat.beq_eq]; exact h
  simp [look,this]
def St.put (s : St) (d : Nat) (v : AV) : St := { s with env := (d,v) :: s.env }
structure Ctx where
  P : Program
  r : Option Nat
  N : Nat
  dfr : List Deferred
  w0 : World
  Zs : Nat → Prop
  Zb : Nat → Prop
  T0 : Nat → Prop
  K : List Nat
  ι0 : Tags
structure Trans (T : Nat → Prop) (w w' : World) : Prop where
  os : w'.os = w.os
  tape : w'.tape = w.tape
  output : w'.output = w.output
  size : w.heap.size ≤ w'.heap.size
  block : ∀ k,k < w.heap.size → ¬ T k → w'.heap[k]? = w.heap[k]?
  bsz : ∀ b n,bsz w b = some n → bsz w' b = some n
theorem Trans.refl (T : Nat → Prop) (w : World) : Trans T w w := ⟨rfl,rfl,rfl,Nat.le_refl _,fun _ _ _ => rfl,fun _ _ h => h⟩
def zone (C : Ctx) (H : List (Nat × Blk)) (ι : Tags) (w : World) : Zone := fun β b =>
  b < w.heap.size ∧ (∀ t,has t H → ι t ≠ some b) ∧ ((β = true ∧ C.Zb b) ∨ C.Zs b ∨ C.w0.heap.size ≤ b ∨ C.T0 b)
def BlkR (w : World) (Z : Zone) (ι : Tags) (t : Nat) (k : Blk) : Prop :=
  match ι t with
  | none => k.cells = [] ∧ k.lst = true
  | some b => ∃ cur,w.heap[b]? = some (.cells cur k.ty (0,0)) ∧ k.cells.length ≤ cur.size ∧
      ∀ i (hi : i < k.cells.length),∃ u,cur[i]? = some u ∧ VR w (bif k.lst then fun _ => Z false else Z) (bif k.lst then fun _ => none else ι) (k.cells[i]'hi) u
structure Core (C : Ctx) (H : List (Nat × Blk)) (ι : Tags) (w : World) : Prop where
  blk : ∀ t k,look t H = some k → BlkR w (zone C H ι w) ι t k
  inj : ∀ t t' b,has t H → has t' H → ι t = some b → ι t' = some b → t = t'
  own : ∀ t b,has t H → ι t = some b → C.w0.heap.size ≤ b ∨ C.T0 b
  tr : Trans C.T0 C.w0 w
structure Rel (C : Ctx) (s : St) (ι : Tags) (a : Act) (w : World) : Prop where
  size : a.tmps.size = C.N
  dfr : a.defers = C.dfr
  env : ∀ d v,look d s.env = some v → VR w (zone C s.heap ι w) ι v (a.tmps.getD d undef)
  core : Core C s.heap ι w
  stab : ∀ t,t ∈ C.K → ι t = C.ι0 t
def Ev (C : Ctx) (s : St) (x : Operand) (v : AV) : Prop := ∀ ι a w,Rel C s ι a w → VR w (zone C s.heap ι w) ι v (a.eval x)
theorem Ev.tmp {C : Ctx} {s : St} {t : Nat} {v : AV} (h : look t s.env = some v) : Ev C s (.tmp t) v := fun _ _ _ r => r.env t v h
theorem Ev.const (C : Ctx) (s : St) (v : Value) : Ev C s (.const v) (.sc v) := fun _ _ _ _ => .sc _ _ _
theorem Ev.func (C : Ctx) (s : St) (f : FuncId) : Ev C s (.func f) (.clo (.func f) [] []) := fun _ _ _ _ =>
  .clo _ _ _ [] [] [] [] rfl rfl (fun i hi => absurd hi (by simp)) (fun i hi => absurd hi (by simp))
theorem Ev.gd {C : Ctx} {s : St} {x : Operand} {c : Bool} {v : AV} (hc : c = true) (h : Ev C s x (.gd c v)) : Ev C s x v := fun ι a w r => by
  cases h ι a w r with
  | gd _ _ _ _ _ h _ => exact h hc
theorem Rel.put {C : Ctx} {s : St} {ι : Tags} {a : Act} {w : World} (r : Rel C s ι a w) {d : Nat} {v : AV} {u : Value} (hd : d < C.N)
    (h : VR w (zone C s.heap ι w) ι v u) : Rel C (s.put d v) ι (a.put (some d) u) w := by
  refine ⟨by simp [Act.put,r.size],by simp [Act.put,r.dfr],?_,r.core,r.stab⟩
  intro d' v' hl
  have hsz := r.size
  by_cases e : d' = d
  · subst e
    simp only [St.put,look_cons_self] at hl
    cases hl
    simp only [Act.put,Array.getD_eq_getD_getElem?,Array.getElem?_setIfInBounds]
    simp [hsz,hd]
    exact h
  · simp only [St.put,look_cons_ne e] at hl
    have := r.env d' v' hl
    simp only [Act.put,Array.getD_eq_getD_getElem?,Array.getElem?_setIfInBounds]
    rw [if_neg (fun h => e h.symm)]
    rw [Array.getD_eq_getD_getElem?] at this
    exact this
def AWP (C : Ctx) (c : Code) (Q : Exit → St → Prop) (s : St) : Prop :=
  ∀ ι a w,Rel C s ι a w → c.wpIn (Fc C.r) 0 C.P (fun e a' w' => ∃ s' ι',Rel C s' ι' a' w' ∧ Q e s') a w
def thn (R : St → Prop) (Q : Exit → St → Prop) : Exit → St → Prop
  | .normal,s => R s
  | e,s => Q e s
def inb (id : Nat) (Q : Exit → St → Prop) : Exit → St → Prop
  | .exit i,s => bif Nat.beq i id then Q .normal s else Q (.exit i) s
  | e,s => Q e s
def VC (C : Ctx) (s s' : St) : Prop := ∀ ι a w,Rel C s ι a w → ∃ ι',Rel C s' ι' a w
theorem VC.trans {C : Ctx} {s s1 s2 : St} (h : VC C s s1) (h' : VC C s1 s2) : VC C s s2 := fun ι a w r => let ⟨ι1,r1⟩ := h ι a w r; h' ι1 a w r1
theorem AWP.vc {C : Ctx} {c : Code} {Q : Exit → St → Prop} {s s' : St} (h : VC C s s') (k : AWP C c Q s') : AWP C c Q s :=
  fun ι a w r => let ⟨ι',r'⟩ := h ι a w r; k ι' a w r'
theorem AWP.skip {C : Ctx} {Q : Exit → St → Prop} {s : St} (h : Q .normal s) : AWP C .skip Q s := fun ι _ _ r => wpIn_skip ⟨s,ι,r,h⟩
theorem AWP.ret {C : Ctx} {Q : Exit → St → Prop} {s : St} (h : Q .ret s) : AWP C .ret Q s := fun ι _ _ r => wpIn_ret ⟨s,ι,r,h⟩
theorem AWP.exit {C : Ctx} {Q : Exit → St → Prop} {s : St} {id : Nat} (h : Q (.exit id) s) : AWP C (.exit id) Q s := fun ι _ _ r => wpIn_exit ⟨s,ι,r,h⟩
theorem AWP.seq {C : Ctx} {Q : Exit → St → Prop} {s : St} {x y : Code} (h : AWP C x (thn (AWP C y Q) Q) s) : AWP C (.seq x y) Q s := fun ι a w r =>
  wpIn_seq (wpIn_mono (h ι a w r) fun e a' w' ⟨s',ι',r',q⟩ => by
    cases e with
    | normal => exact q ι' a' w' r'
    | exit id => exact ⟨s',ι',r',q⟩
    | goto l => exact ⟨s',ι',r',q⟩
    | ret => exact ⟨s',ι',r',q⟩
    | panic ch => exact ⟨s',ι',r',q⟩
    | outgrown => exact ⟨s',ι',r',q⟩)
theorem AWP.block {C : Ctx} {Q : Exit → St → Prop} {s : St} {id : Nat} {c : Code} (h : AWP C c (inb id Q) s) : AWP C (.block id c) Q s := fun ι a w r =>
  wpIn_block (wpIn_mono (h ι a w r) fun e a' w' ⟨s',ι',r',q⟩ => by
    cases e with
    | exit i =>
      by_cases hi : i = id
      · subst hi; simp only [inb,Nat.beq_refl,cond_true] at q; simp only [Exit.inBlock,if_true]; exact ⟨s',ι',r',q⟩
      · have hb : Nat.beq i id = false := by rw [← Bool.not_eq_true,Nat.beq_eq]; exact hi
        simp only [inb,hb,cond_false] at q; simp only [Exit.inBlock,if_neg hi]; exact ⟨s',ι',r',q⟩
    | normal => exact ⟨s',ι',r',q⟩
    | goto l => exact ⟨s',ι',r',q⟩
    | ret => exact ⟨s',ι',r',q⟩
    | panic ch => exact ⟨s',ι',r',q⟩
    | outgrown => exact ⟨s',ι',r',q⟩)
theorem AWP.cond {C : Ctx} {Q : Exit → St → Prop} {s : St} {x : Operand} {c1 c2 : Code} {b : Bool} (hx : Ev C s x (.sc (.bool b)))
    (ht : b = true → AWP C c1 Q s) (hf : b = false → AWP C c2 Q s) : AWP C (.cond x c1 c2) Q s := fun ι a w r => by
  have he : a.eval x = .bool b := by
    have h := hx ι a w r
    generalize a.eval x = u at h
    cases h; rfl
  exact wpIn_cond_split he (fun h => ht h ι a w r) (fun h => hf h ι a w r)
theorem AWP.loop {C : Ctx} {Q : Exit → St → Prop} {c : Code} {σ : Type} (S : σ → St) (Φ : Nat → σ → Prop) (h0 : ∀ x,¬ Φ 0 x)
    (step : ∀ n x,Φ (n + 1) x → AWP C c (thn (fun s' => ∃ x',Φ n x' ∧ VC C s' (S x')) Q) (S x)) (n : Nat) (x : σ) (hx : Φ n x) : AWP C (.loop c) Q (S x) := by
  intro ι a w r b k cs hro hb hr
  have key : ∀ n x ι a w,Φ n x → Rel C (S x) ι a w →
      ∃ e a' w',(∃ s' ι',Rel C s' ι' a' w' ∧ Q e s') ∧ ArrivesIn (Machine.fenced C.P (Fc C.r)) C.P (lone (b.atR a (.code c :: .inLoop c :: k)) cs w) b k cs e a' w' := by
    intro n
    induction n with
    | zero => intro x _ _ _ hx; exact absurd hx (h0 x)
    | succ n ih =>
      intro x ι a w hx r
      obtain ⟨e,a₁,w₁,⟨s1,ι1,r1,q⟩,harr⟩ := step n x hx ι a w r b (.inLoop c :: k) cs hro hb hr
      cases e with
      | normal =>
        obtain ⟨x',hx',hvc⟩ := q
        obtain ⟨ι2,r2⟩ := hvc ι1 a₁ w₁ r1
        obtain ⟨e₂,a₂,w₂,hq₂,harr₂⟩ := ih x' ι2 a₁ w₁ hx' r2
        exact ⟨e₂,a₂,w₂,hq₂,.of_steps (StepsIn.trans harr (.one (fenced_calm hb hr rfl) stepR_inLoop)) harr₂⟩
      | exit id => exact ⟨_,a₁,w₁,⟨s1,ι1,r1,q⟩,.pass (x := .inLoop c) rfl (fun _ _ => .inl (by simp)) harr⟩
      | goto l => exact ⟨_,a₁,w₁,⟨s1,ι1,r1,q⟩,.pass (x := .inLoop c) rfl (fun _ _ => .inl (by simp)) harr⟩
      | ret => exact ⟨_,a₁,w₁,⟨s1,ι1,r1,q⟩,.pass (x := .inLoop c) rfl (fun _ _ => .inl (by simp)) harr⟩
      | panic ch => exact ⟨_,a₁,w₁,⟨s1,ι1,r1,q⟩,.pass (x := .inLoop c) rfl (fun _ _ => .inl (by simp)) harr⟩
      | outgrown => exact ⟨_,a₁,w₁,⟨s1,ι1,r1,q⟩,.pass (x := .inLoop c) rfl (fun _ _ => .inl (by simp)) harr⟩
  obtain ⟨e,a',w',hq,harr⟩ := key n x ι a w hx r
  exact ⟨e,a',w',hq,.of_steps (.one (fenced_calm hb hr rfl) stepR_loop) harr⟩
def AStep (C : Ctx) (o : Oper) (s s' : St) : Prop :=
  ∀ ι a w (K : Act → World → Prop) (Q : Exit → Act → World → Prop),Rel C s ι a w → (∀ ι' a' w',Rel C s' ι' a' w' → K a' w') → o.wpIn (Fc C.r) 0 C.P a w K Q
def ARun (C : Ctx) (A : Array Oper) (l : List Oper) (s s' : St) : Prop :=
  ∀ ι a w (Q : Exit → Act → World → Prop),Rel C s ι a w → (∀ ι' a' w',Rel C s' ι' a' w' → Q .normal a' w') → wpListIn (Fc C.r) 0 C.P A Q l a w
theorem ARun.nil (C : Ctx) (A : Array Oper) (s : St) : ARun C A [] s s := fun ι a w _ r h => h ι a w r
theorem ARun.vc {C : Ctx} {A : Array Oper} {l : List Oper} {s s1 s2 : St} (h : VC C s s1) (t : ARun C A l s1 s2) : ARun C A l s s2 := fun ι a w Q r hq =>
  let ⟨ι',r'⟩ := h ι a w r; t ι' a w Q r' hq
theorem ARun.cons {C : Ctx} {A : Array Oper} {d : Option Nat} {op : Op} {ty : TypeId} {p : String} {e : Array Edge} {l : List Oper} {s s1 s2 : St}
    (h : AStep C ⟨d,op,ty,p,e,none⟩ s s1) (t : ARun C A l s1 s2) : ARun C A (⟨d,op,ty,p,e,none⟩ :: l) s s2 := fun ι a w Q r hq => by
  refine wpListIn_plain rfl fun K hK => h ι a w K Q r fun ι' a' w' r' => hK _ _ (t ι' a' w' Q r' hq)
theorem yielded_of {C : Ctx} {s : St} {ι : Tags} {a : Act} {w : World} (r : Rel C s ι a w) {A : Array Oper} {j dj : Nat} {b : Bool} (hj : (A[j]?).bind (·.dst) = some dj) (hd : dj < C.N)
    (hb : look dj s.env = some (.sc (.bool b))) : yielded A a.tmps j = some b := by
  have h := r.env dj _ hb
  have hs := r.size
  have he : a.tmps.getD dj undef = .bool b := by
    generalize a.tmps.getD dj undef = u at h
    cases h; rfl
  unfold yielded
  rw [hj]
  rw [Array.getD_eq_getD_getElem?] at he
  have hlt : dj < a.tmps.size := by rw [hs]; exact hd
  rw [Array.getElem?_eq_getElem hlt] at he
  simp only [Option.bind_some,Array.getElem?_eq_getElem hlt]
  simp only [Option.getD_some] at he
  rw [he]
theorem wanted1 {C : Ctx} {s : St} {ι : Tags} {a : Act} {w : World} (r : Rel C s ι a w) {A : Array Oper} {j dj : Nat} {b want : Bool} (hj : (A[j]?).bind (·.dst) = some dj) (hd : dj < C.N)
    (hb : look dj s.env = some (.sc (.bool b))) : (yielded A a.tmps j == some want) = (bif want then b else !b) := by
  rw [yielded_of r hj hd hb]
  cases b <;> cases want <;> rfl
theorem wanted2 {C : Ctx} {s : St} {ι : Tags} {a : Act} {w : World} (r : Rel C s ι a w) {A : Array Oper} {j dj : Nat} {a0 b want : Bool} (hj : (A[j]?).bind (·.dst) = some dj) (hd : dj < C.N)
    (hb : look dj s.env = some (.gd a0 (.sc (.bool b)))) : (yielded A a.tmps j == some want) = (a0 && (bif want then b else !b)) := by
  have h := r.env dj _ hb
  have hs := r.size
  have hlt : dj < a.tmps.size := by rw [hs]; exact hd
  unfold yielded
  rw [hj]
  rw [Array.getD_eq_getD_getElem?] at h
  simp only [Option.bind_some,Array.getElem?_eq_getElem hlt] at h ⊢
  simp only [Option.getD_some] at h
  generalize a.tmps[dj] = u at h
  cases h with
  | gd _ _ _ _ _ h hu =>
    cases a0 with
    | true => have := h rfl; cases this; cases b <;> cases want <;> rfl
    | false => rw [hu rfl]; cases want <;> rfl
theorem ARun.guardC {C : Ctx} {A : Array Oper} {d : Nat} {op : Op} {ty : TypeId} {p : String} {e : Array Edge} {j : Nat} {want c : Bool} {l : List Oper} {s s2 : St} {v : AV}
    (hw : ∀ ι a w,Rel C s ι a w → (yielded A a.tmps j == some want) = c) (hd : d < C.N)
    (h : c = true → AStep C ⟨some d,op,ty,p,e,some (j,want)⟩ s (s.put d v))
    (t : ARun C A l (s.put d (.gd c v)) s2) : ARun C A (⟨some d,op,ty,p,e,some (j,want)⟩ :: l) s s2 := fun ι a w Q r hq => by
  refine wpListIn_step fun K hK => ?_
  have hw : Region.wanted ⟨some d,op,ty,p,e,some (j,want)⟩ (yielded A a.tmps) = c := hw ι a w r
  rw [hw]
  by_cases hg : c = true
  · rw [if_pos hg]
    refine h hg ι a w K Q r fun ι' a' w' r' => hK _ _ (t ι' a' w' Q ?_ hq)
    refine ⟨r'.size,r'.dfr,?_,r'.core,r'.stab⟩
    intro d' v' hl
    by_cases ed : d' = d
    · subst ed
      simp only [St.put,look_cons_self] at hl
      cases hl
      exact .gd _ _ _ _ _ (fun _ => r'.env d' v (by simp [St.put,look_cons_self])) (fun hf => by rw [hg] at hf; cases hf)
    · simp only [St.put,look_cons_ne ed] at hl
      exact r'.env d' v' (by simpa [St.put,look_cons_ne ed] using hl)
  · rw [if_neg hg]
    refine ⟨fun _ _ => trivial,hK _ _ (t ι _ w Q (r.put hd (.gd _ _ _ _ _ (fun h => absurd h hg) (fun _ => rfl))) hq)⟩
theorem ARun.guard {C : Ctx} {A : Array Oper} {d : Nat} {op : Op} {ty : TypeId} {p : String} {e : Array Edge} {j dj : Nat} {b want : Bool} {l : List Oper} {s s2 : St} {v : AV}
    (hj : (A[j]?).bind (·.dst) = some dj) (hdj : dj < C.N) (hb : look dj s.env = some (.sc (.bool b))) (hd : d < C.N)
    (h : (bif want then b else !b) = true → AStep C ⟨some d,op,ty,p,e,some (j,want)⟩ s (s.put d v))
    (t : ARun C A l (s.put d (.gd (bif want then b else !b) v)) s2) : ARun C A (⟨some d,op,ty,p,e,some (j,want)⟩ :: l) s s2 :=
  .guardC (fun _ _ _ r => wanted1 r hj hdj hb) hd h t
theorem ARun.guard2 {C : Ctx} {A : Array Oper} {d : Nat} {op : Op} {ty : TypeId} {p : String} {e : Array Edge} {j dj : Nat} {a0 b want : Bool} {l : List Oper} {s s2 : St} {v : AV}
    (hj : (A[j]?).bind (·.dst) = some dj) (hdj : dj < C.N) (hb : look dj s.env = some (.gd a0 (.sc (.bool b)))) (hd : d < C.N)
    (h : (a0 && (bif want then b else !b)) = true → AStep C ⟨some d,op,ty,p,e,some (j,want)⟩ s (s.put d v))
    (t : ARun C A l (s.put d (.gd (a0 && (bif want then b else !b)) v)) s2) : ARun C A (⟨some d,op,ty,p,e,some (j,want)⟩ :: l) s s2 :=
  .guardC (fun _ _ _ r => wanted2 r hj hdj hb) hd h t
theorem Ev.gdAnd {C : Ctx} {s : St} {x : Operand} {c b : Bool} {v : AV} (hc : c = true) (h : Ev C s x (.gd (c && b) v)) : Ev C s x (.gd b v) := by
  subst hc; exact h
theorem andL {a b : Bool} (h : (a && b) = true) : a = true := by cases a <;> simp_all
theorem andR {a b : Bool} (h : (a && b) = true) : b = true := by cases a <;> simp_all
theorem AWP.rg {C : Ctx} {Q : Exit → St → Prop} {s s' : St} {id : Nat} {l : List Oper} (h : ARun C l.toArray l s s') (hq : Q .normal s') : AWP C (.region id l.toArray false) Q s :=
  fun ι a w r => wpIn_region_lit (h ι a w _ r fun ι' _ _ r' => ⟨s',ι',r',hq⟩)
theorem semAt_plain (r : Option Nat) (ρ : Operand → Value) (o : Oper) (h : ∀ c,o.op ≠ .defer c) : o.semAt r ρ = execOp ρ o := by
  cases r with
  | none => rfl
  | some l => exact Oper.semAt_some l _ _ h
theorem AStep.run {C : Ctx} {o : Oper} {s s' : St} (ho : ∀ c,o.op ≠ .defer c)
    (h : ∀ ι a w,Rel C s ι a w → ∃ u w' ι',(execOp a.eval o).run C.P w = .ok (.value u) w' ∧ Rel C s' ι' (a.put o.dst u) w') : AStep C o s s' := by
  intro ι a w K Q r hk
  obtain ⟨u,w',ι',hr,r'⟩ := h ι a w r
  refine ⟨fun _ _ => trivial,?_⟩
  rw [semAt_plain _ _ _ ho,hr]
  exact hk _ _ _ r'
theorem AStep.runSkip {C : Ctx} {o : Oper} {s s' : St} (ho : ∀ c,o.op ≠ .defer c)
    (h : ∀ ι a w,Rel C s ι a w → ∃ w' ι',(execOp a.eval o).run C.P w = .ok .skip w' ∧ Rel C s' ι' (a.put o.dst undef) w') : AStep C o s s' := by
  intro ι a w K Q r hk
  obtain ⟨w',ι',hr,r'⟩ := h ι a w r
  refine ⟨fun _ _ => trivial,?_⟩
  rw [semAt_plain _ _ _ ho,hr]
  exact hk _ _ _ r'
theorem AStep.val {C : Ctx} {op : Op} {d : Nat} {ty : TypeId} {p : String} {e : Array Edge} {g : Option (Nat × Bool)} {s : St} {v : AV} (hd : d < C.N) (ho : ∀ c,op ≠ .defer c)
    (h : ∀ ι a w,Rel C s ι a w → ∃ u,(execOp a.eval ⟨some d,op,ty,p,e,g⟩).run C.P w = .ok (.value u) w ∧ VR w (zone C s.heap ι w) ι v u) :
    AStep C ⟨some d,op,ty,p,e,g⟩ s (s.put d v) :=
  .run ho fun ι a w r => let ⟨u,hr,hv⟩ := h ι a w r; ⟨u,w,ι,hr,r.put hd hv⟩
end Go.AB
namespace Go.AB
open Go
section
variable {C : Ctx} {d : Nat} {ty : TypeId} {p : String} {e : Array Edge} {g : Option (Nat × Bool)} {s : St}
theorem sc_inv {w : World} {Z : Zone} {ι : Tags} {v u : Value} (h : VR w Z ι (.sc v) u) : u = v := by cases h; rfl
theorem Ev.sc {x : Operand} {v : Value} (h : Ev C s x (.sc v)) {ι : Tags} {a : Act} {w : World} (r : Rel C s ι a w) : a.eval x = v := sc_inv (h ι a w r)
theorem AStep.move {x : Operand} {v : AV} (hd : d < C.N) (hx : Ev C s x v) : AStep C ⟨some d,.move x,ty,p,e,g⟩ s (s.put d v) :=
  .val hd (fun _ h => by cases h) fun ι a w r => ⟨a.eval x,rfl,hx ι a w r⟩
theorem AStep.assign {x : Operand} {v : AV} (hd : d < C.N) (hx : Ev C s x v) : AStep C ⟨some d,.assign x,ty,p,e,g⟩ s (s.put d v) :=
  .val hd (fun _ h => by cases h) fun ι a w r => ⟨a.eval x,rfl,hx ι a w r⟩
theorem AStep.bin {op : BinOp} {T U : TypeId} {x y : Operand} {m n u : Value} (hd : d < C.N) (hx : Ev C s x (.sc m)) (hy : Ev C s y (.sc n))
    (h : ∀ w,(do eqGuard op T x y m n; binOp op T m n : Sem Value).run C.P w = .ok u w) : AStep C ⟨some d,.binOp op T x y U,ty,p,e,g⟩ s (s.put d (.sc u)) :=
  .val hd (fun _ h => by cases h) fun ι a w r => by
    refine ⟨u,?_,.sc _ _ _⟩
    simp only [execOp,hx.sc r,hy.sc r]
    have := h w
    simp only [Sem.run_bind] at this ⊢
    rw [this]
    simp
section ints
variable {T U : TypeId} {x y : Operand} {k : IntKind} {m n : Int} (hd : d < C.N) (hx : Ev C s x (.sc (.int k m))) (hy : Ev C s y (.sc (.int k n)))
include hd hx hy
theorem AStep.add : AStep C ⟨some d,.binOp .add T x y U,ty,p,e,g⟩ s (s.put d (.sc (.int k (k.wrap (m + n))))) := .bin hd hx hy fun w => by simp [eqGuard,binOp,Op.intArith]
theorem AStep.sub : AStep C ⟨some d,.binOp .sub T x y U,ty,p,e,g⟩ s (s.put d (.sc (.int k (k.wrap (m - n))))) := .bin hd hx hy fun w => by simp [eqGuard,binOp,Op.intArith]
theorem AStep.mul : AStep C ⟨some d,.binOp .mul T x y U,ty,p,e,g⟩ s (s.put d (.sc (.int k (k.wrap (m * n))))) := .bin hd hx hy fun w => by simp [eqGuard,binOp,Op.intArith]
theorem AStep.quo (h0 : n ≠ 0) : AStep C ⟨some d,.binOp .quo T x y U,ty,p,e,g⟩ s (s.put d (.sc (.int k (k.wrap (m.tdiv n))))) := .bin hd hx hy fun w => by simp [eqGuard,binOp,Op.intDiv,h0]
theorem AStep.eql : AStep C ⟨some d,.binOp .eql T x y U,ty,p,e,g⟩ s (s.put d (.sc (.bool (decide (m = n))))) := .bin hd hx hy fun w => by simp [eqGuard,binOp,Op.intCmp]; rfl
theorem AStep.neq : AStep C ⟨some d,.binOp .neq T x y U,ty,p,e,g⟩ s (s.put d (.sc (.bool (!decide (m = n))))) := .bin hd hx hy fun w => by simp [eqGuard,binOp,Op.intCmp]; rfl
theorem AStep.lss : AStep C ⟨some d,.binOp .lss T x y U,ty,p,e,g⟩ s (s.put d (.sc (.bool (decide (m < n))))) := .bin hd hx hy fun w => by simp [eqGuard,binOp,Op.intCmp]
theorem AStep.leq : AStep C ⟨some d,.binOp .leq T x y U,ty,p,e,g⟩ s (s.put d (.sc (.bool (decide (m ≤ n))))) := .bin hd hx hy fun w => by simp [eqGuard,binOp,Op.intCmp]
theorem AStep.gtr : AStep C ⟨some d,.binOp .gtr T x y U,ty,p,e,g⟩ s (s.put d (.sc (.bool (decide (n < m))))) := .bin hd hx hy fun w => by simp [eqGuard,binOp,Op.intCmp]
theorem AStep.geq : AStep C ⟨some d,.binOp .geq T x y U,ty,p,e,g⟩ s (s.put d (.sc (.bool (decide (n ≤ m))))) := .bin hd hx hy fun w => by simp [eqGuard,binOp,Op.intCmp]
end ints
def shrI (k : IntKind) (x y : Int) : Int := x.fdiv (2 ^ min y.toNat k.bits)
section bits
variable {T U : TypeId} {x y : Operand} {k : IntKind} {m n : Int} (hd : d < C.N) (hx : Ev C s x (.sc (.int k m)))
include hd hx
section same
variable (hy : Ev C s y (.sc (.int k n)))
include hy
end same
theorem AStep.shr {k' : IntKind} (hy : Ev C s y (.sc (.int k' n))) (h0 : 0 ≤ n) : AStep C ⟨some d,.binOp .shr T x y U,ty,p,e,g⟩ s (s.put d (.sc (.int k (shrI k m n)))) :=
  .bin hd hx hy fun w => by simp [eqGuard,binOp,Op.shift,shrI,Int.not_lt.2 h0]
end bits
theorem AStep.eqlB {T U : TypeId} {x y : Operand} {m n : Bool} (hd : d < C.N) (hx : Ev C s x (.sc (.bool m))) (hy : Ev C s y (.sc (.bool n))) (hT : C.P.underlying T = some .bool) :
    AStep C ⟨some d,.binOp .eql T x y U,ty,p,e,g⟩ s (s.put d (.sc (.bool (m == n)))) := .bin hd hx hy fun w => by
  have h := run_eql_bool (P := C.P) w T m n hT
  simp [eqGuard,h]
def mkS (l : List UInt8) : ByteArray := ⟨l.toArray⟩
theorem AStep.un {op : UnOp} {T : TypeId} {x : Operand} {m u : Value} (hd : d < C.N) (hx : Ev C s x (.sc m)) (h : ∀ w,(Op.unary op m).run C.P w = .ok u w) :
    AStep C ⟨some d,.unOp op T x,ty,p,e,g⟩ s (s.put d (.sc u)) :=
  .val hd (fun _ h => by cases h) fun ι a w r => ⟨u,by simp [execOp,hx.sc r,h w],.sc _ _ _⟩
theorem AStep.not {T : TypeId} {x : Operand} {b : Bool} (hd : d < C.N) (hx : Ev C s x (.sc (.bool b))) : AStep C ⟨some d,.unOp .not T x,ty,p,e,g⟩ s (s.put d (.sc (.bool (!b)))) :=
  .un hd hx fun _ => rfl
theorem AStep.conv {S T : TypeId} {x : Operand} {k k' : IntKind} {n : Int} (hd : d < C.N) (hx : Ev C s x (.sc (.int k' n))) (hS : C.P.underlying S = some (.int k')) (hT : C.P.underlying T = some (.int k)) :
    AStep C ⟨some d,.convert S T x,ty,p,e,g⟩ s (s.put d (.sc (.int k (k.wrap n)))) :=
  .val hd (fun _ h => by cases h) fun ι a w r => ⟨.int k (k.wrap n),by simp [execOp,hx.sc r,convert,run_underlying hS,run_underlying hT,Conv.intToInt],.sc _ _ _⟩
theorem AStep.pickAnd {c x y : Operand} {b m : Bool} (hd : d < C.N) (hc : Ev C s c (.sc (.bool b))) (hx : Ev C s x (.gd b (.sc (.bool m)))) (hy : Ev C s y (.sc (.bool false))) :
    AStep C ⟨some d,.pick c x y,ty,p,e,g⟩ s (s.put d (.sc (.bool (b && m)))) :=
  .val hd (fun _ h => by cases h) fun ι a w r => by
    refine ⟨.bool (b && m),?_,.sc _ _ _⟩
    have h := hx ι a w r
    cases b with
    | false => simp [execOp,hc.sc r,hy.sc r,asBool]
    | true =>
      have : a.eval x = .bool m := by
        generalize a.eval x = u at h
        cases h with
        | gd _ _ _ _ _ h _ => exact sc_inv (h rfl)
      simp [execOp,hc.sc r,this,asBool]
theorem AStep.pickOr {c x y : Operand} {b m : Bool} (hd : d < C.N) (hc : Ev C s c (.sc (.bool b))) (hx : Ev C s x (.sc (.bool true))) (hy : Ev C s y (.gd (!b) (.sc (.bool m)))) :
    AStep C ⟨some d,.pick c x y,ty,p,e,g⟩ s (s.put d (.sc (.bool (b || m)))) :=
  .val hd (fun _ h => by cases h) fun ι a w r => by
    refine ⟨.bool (b || m),?_,.sc _ _ _⟩
    have h := hy ι a w r
    cases b with
    | true => simp [execOp,hc.sc r,hx.sc r,asBool]
    | false =>
      have : a.eval y = .bool m := by
        generalize a.eval y = u at h
        cases h with
        | gd _ _ _ _ _ h _ => exact sc_inv (h rfl)
      simp [execOp,hc.sc r,this,asBool]
theorem AStep.bi1 {b : Builtin} {x : Operand} {T : TypeId} {u : Value} (hd : d < C.N)
    (h : ∀ ι a w,Rel C s ι a w → (builtin b #[T] ty (#[x].map fun | .const _ => true | _ => false) #[a.eval x]).run C.P w = .ok (.value u) w) :
    AStep C ⟨some d,.call { callee := .builtin b,args := #[x],argTypes := #[T] },ty,p,e,g⟩ s (s.put d (.sc u)) :=
  .val hd (fun _ h => by cases h) fun ι a w r => by
    refine ⟨u,?_,.sc _ _ _⟩
    have := h ι a w r
    simp only [execOp,resolve,Sem.run_bind,Sem.run_pure,Result.andThen_ok,invoke,List.map_toArray,List.map_cons,List.map_nil] at this ⊢
    exact this
theorem len_slice {P : Program} {w : World} {T E : TypeId} (hT : P.underlying T = some (.slice E)) (ty : TypeId) (a : Option Addr) (n c : Nat) (cs : Array Bool) :
    (builtin .len #[T] ty cs #[.slice a n c]).run P w = .ok (.value (.int .i64 n)) w := by
  simp [builtin,Builtin.len_,run_underlying hT,goInt]
theorem AStep.lenRd {x : Operand} {T E : TypeId} {β : Bool} {n : Nat} {cs : List AV} (hd : d < C.N) (hx : Ev C s x (.rd β n cs)) (hT : C.P.underlying T = some (.slice E)) :
    AStep C ⟨some d,.call { callee := .builtin .len,args := #[x],argTypes := #[T] },ty,p,e,g⟩ s (s.put d (.sc (.int .i64 n))) :=
  .bi1 hd fun ι a w r => by
    have h := hx ι a w r
    generalize a.eval x = u at h
    cases h with
    | rdnil => exact len_slice hT _ _ _ _ _
    | rd => exact len_slice hT _ _ _ _ _
theorem AStep.lenOwn {x : Operand} {T E : TypeId} {t sz off n : Nat} (hd : d < C.N) (hx : Ev C s x (.own t sz off n)) (hT : C.P.underlying T = some (.slice E)) :
    AStep C ⟨some d,.call { callee := .builtin .len,args := #[x],argTypes := #[T] },ty,p,e,g⟩ s (s.put d (.sc (.int .i64 n))) :=
  .bi1 hd fun ι a w r => by
    have h := hx ι a w r
    generalize a.eval x = u at h
    cases h with
    | ownnil => exact len_slice hT _ _ _ _ _
    | ownz => exact len_slice hT _ _ _ _ _
    | own => exact len_slice hT _ _ _ _ _
theorem AStep.bi2 {b : Builtin} {x y : Operand} {T U : TypeId} {m n u : Value} (hd : d < C.N) (hx : Ev C s x (.sc m)) (hy : Ev C s y (.sc n))
    (h : ∀ w cs,(builtin b #[T,U] ty cs #[m,n]).run C.P w = .ok (.value u) w) :
    AStep C ⟨some d,.call { callee := .builtin b,args := #[x,y],argTypes := #[T,U] },ty,p,e,g⟩ s (s.put d (.sc u)) :=
  .val hd (fun _ h => by cases h) fun ι a w r => by
    refine ⟨u,?_,.sc _ _ _⟩
    have := h w (#[x,y].map fun | .const _ => true | _ => false)
    simp only [execOp,resolve,Sem.run_bind,Sem.run_pure,Result.andThen_ok,invoke,List.map_toArray,List.map_cons,List.map_nil,hx.sc r,hy.sc r] at this ⊢
    exact this
theorem AStep.min2 {x y : Operand} {T U : TypeId} {k : IntKind} {m n : Int} (hd : d < C.N) (hx : Ev C s x (.sc (.int k m))) (hy : Ev C s y (.sc (.int k n))) :
    AStep C ⟨some d,.call { callee := .builtin .min,args := #[x,y],argTypes := #[T,U] },ty,p,e,g⟩ s (s.put d (.sc (.int k (if n < m then n else m)))) :=
  .bi2 hd hx hy fun w cs => by simp [builtin,Builtin.min_,Builtin.min2]
def getIdx {α : Type} (xs : List α) (i : Int) : Option α := if 0 ≤ i then xs[i.toNat]? else none
theorem getIdx_nat {α : Type} (xs : List α) (k : Nat) : getIdx xs (k : Int) = xs[k]? := by simp [getIdx]
theorem getIdx_some {α : Type} {xs : List α} {i : Int} {y : α} (h : getIdx xs i = some y) : 0 ≤ i ∧ i < xs.length ∧ xs[i.toNat]? = some y := by
  unfold getIdx at h
  split at h
  · rename_i h0
    have := (List.getElem?_eq_some_iff.1 h).1
    exact ⟨h0,by omega,h⟩
  · cases h
theorem AStep.extract {x : Operand} {k : Nat} {vs : List AV} {v : AV} (hd : d < C.N) (hx : Ev C s x (.tup vs)) (hv : vs[k]? = some v) : AStep C ⟨some d,.extract x k,ty,p,e,g⟩ s (s.put d v) :=
  .val hd (fun _ h => by cases h) fun ι a w r => by
    have h := hx ι a w r
    generalize hu : a.eval x = u at h
    cases h with
    | tup _ _ _ us hl h =>
      have hk : k < vs.length := (List.getElem?_eq_some_iff.1 hv).1
      have hv' : vs[k] = v := by rw [List.getElem?_eq_getElem hk] at hv; exact Option.some.inj hv
      refine ⟨us[k]'(hl ▸ hk),?_,hv' ▸ h k hk⟩
      simp [execOp,hu,Instr.extract,List.getElem?_eq_getElem (hl ▸ hk : k < us.length)]
end
end Go.AB
namespace Go.AB
open Go
section lists
variable {α : Type} {enc : α → List AV} {sz : Nat}
theorem flatMap_length (henc : ∀ y,(enc y).length = sz) (xs : List α) : (xs.flatMap enc).length = xs.length * sz := by
  induction xs with
  | nil => simp
  | cons x xs ih => simp [List.flatMap_cons,ih,henc,Nat.add_mul,Nat.add_comm]
theorem flatMap_at (henc : ∀ y,(enc y).length = sz) {y : α} : ∀ (xs : List α) (i : Nat),xs[i]? = some y → ∀ j,j < sz → (xs.flatMap enc)[i * sz + j]? = (enc y)[j]? := by
  intro xs
  induction xs with
  | nil => intro i h; simp at h
  | cons x xs ih =>
    intro i h j hj
    cases i with
    | zero =>
      simp only [List.getElem?_cons_zero,Option.some.injEq] at h
      subst h
      rw [List.flatMap_cons,Nat.zero_mul,Nat.zero_add,List.getElem?_append_left (by rw [henc]; exact hj)]
    | succ i =>
      simp only [List.getElem?_cons_succ] at h
      rw [List.flatMap_cons,List.getElem?_append_right (by rw [henc,Nat.add_mul]; omega),henc,Nat.add_mul]
      rw [show i * sz + 1 * sz + j - sz = i * sz + j from by omega]
      exact ih i h j hj
theorem flatMap_drop (henc : ∀ y,(enc y).length = sz) (xs : List α) (k : Nat) : (xs.flatMap enc).drop (k * sz) = (xs.drop k).flatMap enc := by
  induction xs generalizing k with
  | nil => simp
  | cons x xs ih =>
    cases k with
    | zero => simp
    | succ k =>
      rw [List.flatMap_cons,List.drop_succ_cons,← ih k,Nat.add_mul,Nat.one_mul,Nat.add_comm,← List.drop_drop]
      rw [List.drop_left' (henc x)]
theorem flatMap_take (henc : ∀ y,(enc y).length = sz) (xs : List α) (k : Nat) : (xs.flatMap enc).take (k * sz) = (xs.take k).flatMap enc := by
  induction xs generalizing k with
  | nil => simp
  | cons x xs ih =>
    cases k with
    | zero => simp
    | succ k =>
      rw [List.flatMap_cons,List.take_succ_cons,List.flatMap_cons,← ih k,Nat.add_mul,Nat.one_mul,Nat.add_comm,← henc x,List.take_length_add_append]
theorem flatMap_set (henc : ∀ y,(enc y).length = sz) (y' : α) : ∀ (xs : List α) (i : Nat) (y : α),xs[i]? = some y → ∀ j v,enc y' = (enc y).set j v → j < sz →
    (xs.flatMap enc).set (i * sz + j) v = (xs.set i y').flatMap enc := by
  intro xs
  induction xs with
  | nil => intro i y h; simp at h
  | cons x xs ih =>
    intro i y h j v he hj
    cases i with
    | zero =>
      simp only [List.getElem?_cons_zero,Option.some.injEq] at h
      subst h
      rw [List.flatMap_cons,Nat.zero_mul,Nat.zero_add,List.set_cons_zero,List.flatMap_cons,he,List.set_append_left _ _ (by rw [henc]; exact hj)]
    | succ i =>
      simp only [List.getElem?_cons_succ] at h
      rw [List.flatMap_cons,List.set_cons_succ,List.flatMap_cons,List.set_append_right _ _ (by rw [henc,Nat.add_mul]; omega),henc,Nat.add_mul]
      rw [show i * sz + 1 * sz + j - sz = i * sz + j from by omega,ih i y h j v he hj]
end lists
theorem Addr.add_plain (b o n : Nat) : (⟨b,o,none⟩ : Addr).add n = ⟨b,o + n,none⟩ := by
  unfold Addr.add
  split
  · rename_i h; subst h; rfl
  · rfl
section
variable {C : Ctx} {d : Nat} {ty : TypeId} {p : String} {e : Array Edge} {g : Option (Nat × Bool)} {s : St}
def szOf (P : Program) (T : TypeId) (n : Nat) : Prop := ∃ i,P.info? T = some i ∧ i.size = n
theorem szOf.run {P : Program} {T : TypeId} {n : Nat} (h : szOf P T n) (w : World) : (sizeOf T).run P w = .ok n w := by
  obtain ⟨i,hi,rfl⟩ := h
  simp [sizeOf,typeInfo,hi]
theorem szOf.mk {P : Program} {T : TypeId} {n : Nat} (h : (P.info? T).map (·.size) = some n) : szOf P T n := by
  cases hi : P.info? T with
  | none => rw [hi] at h; cases h
  | some i => rw [hi] at h; exact ⟨i,hi,by simpa using h⟩
def oneT (P : Program) (T : TypeId) : Prop := ∃ D,P.underlying T = some D ∧ (match D with | .struct _ | .array _ _ => False | _ => True)
def aggT (P : Program) (T : TypeId) (n : Nat) : Prop := szOf P T n ∧ ∃ D,P.underlying T = some D ∧ (match D with | .struct _ | .array _ _ => True | _ => False)
theorem oneT.run {P : Program} {T : TypeId} (h : oneT P T) (w : World) : (isAgg T).run P w = .ok false w := by
  obtain ⟨D,hD,h⟩ := h
  cases D <;> simp_all [isAgg,run_underlying hD]
theorem aggT.run {P : Program} {T : TypeId} {n : Nat} (h : aggT P T n) (w : World) : (isAgg T).run P w = .ok true w := by
  obtain ⟨_,D,hD,h⟩ := h
  cases D <;> simp_all [isAgg,run_underlying hD]
theorem rd_inv {w : World} {Z : Zone} {ι : Tags} {β : Bool} {n : Nat} {cells : List AV} {u : Value} (h : VR w Z ι (.rd β n cells) u) :
    ((∃ a,u = .slice a 0 0) ∧ n = 0 ∧ cells = []) ∨ ∃ b off cap,∃ vs : Nat → Value,u = .slice (some ⟨b,off,none⟩) n cap ∧ n ≤ cap ∧ cap ≤ maxLen ∧ (cells ≠ [] → Z β b) ∧
      (∀ i,i < cells.length → w.cell? ⟨b,off + i,none⟩ = some (vs i)) ∧ ∀ i (hi : i < cells.length),VR w (fun _ => Z β) (fun _ => none) (cells[i]'hi) (vs i) := by
  cases h with
  | rdnil _ _ _ a => exact .inl ⟨⟨a,rfl⟩,rfl,rfl⟩
  | rd _ _ _ _ _ b off cap vs hz hn hc hv h => exact .inr ⟨b,off,cap,vs,rfl,hn,hc,hz,hv,h⟩
theorem rptr_inv {w : World} {Z : Zone} {ι : Tags} {β : Bool} {cells : List AV} {u : Value} (h : VR w Z ι (.rptr β cells) u) :
    ∃ b off,∃ vs : Nat → Value,u = .pointer (some ⟨b,off,none⟩) ∧ (cells ≠ [] → Z β b) ∧
      (∀ i,i < cells.length → w.cell? ⟨b,off + i,none⟩ = some (vs i)) ∧ ∀ i (hi : i < cells.length),VR w (fun _ => Z β) (fun _ => none) (cells[i]'hi) (vs i) := by
  cases h with
  | rptr _ _ _ _ b off vs hz hv h => exact ⟨b,off,vs,rfl,hz,hv,h⟩
theorem ptr_inv {w : World} {Z : Zone} {ι : Tags} {t off : Nat} {u : Value} (h : VR w Z ι (.ptr t off) u) : ∃ b,u = .pointer (some ⟨b,off,none⟩) ∧ ι t = some b := by
  cases h with
  | ptr _ _ _ _ b ht => exact ⟨b,rfl,ht⟩
theorem own_inv {w : World} {Z : Zone} {ι : Tags} {t sz off n : Nat} {u : Value} (h : VR w Z ι (.own t sz off n) u) :
    (n = 0 ∧ (u = .slice none 0 0 ∨ ∃ b o,u = .slice (some ⟨b,o,none⟩) 0 0)) ∨
      ∃ b cap s,u = .slice (some ⟨b,off,none⟩) n cap ∧ ι t = some b ∧ n ≤ cap ∧ cap ≤ maxLen ∧ bsz w b = some s ∧ off + cap * sz ≤ s := by
  cases h with
  | ownnil => exact .inl ⟨rfl,.inl rfl⟩
  | ownz _ _ _ _ _ b o => exact .inl ⟨rfl,.inr ⟨b,o,rfl⟩⟩
  | own _ _ _ _ _ _ b cap s ht hn hc hs ho => exact .inr ⟨b,cap,s,rfl,ht,hn,hc,hs,ho⟩
theorem VR.part {w : World} {Z : Zone} {cells sub : List AV} {b off o : Nat} {vs : Nat → Value}
    (hv : ∀ i,i < cells.length → w.cell? ⟨b,off + i,none⟩ = some (vs i)) (h : ∀ i (hi : i < cells.length),VR w Z (fun _ => none) (cells[i]'hi) (vs i))
    (hs : ∀ i,i < sub.length → sub[i]? = cells[o + i]?) :
    (∀ i,i < sub.length → w.cell? ⟨b,off + o + i,none⟩ = some (vs (o + i))) ∧ ∀ i (hi : i < sub.length),VR w Z (fun _ => none) (sub[i]'hi) (vs (o + i)) := by
  have key : ∀ i,i < sub.length → o + i < cells.length := by
    intro i hi
    have := hs i hi
    rw [List.getElem?_eq_getElem hi] at this
    exact (List.getElem?_eq_some_iff.1 this.symm).1
  refine ⟨fun i hi => ?_,fun i hi => ?_⟩
  · have := hv (o + i) (key i hi)
    rw [← Nat.add_assoc] at this
    exact this
  · have := h (o + i) (key i hi)
    have e : sub[i] = cells[o + i]'(key i hi) := by
      have := hs i hi
      rw [List.getElem?_eq_getElem hi,List.getElem?_eq_getElem (key i hi)] at this
      exact Option.some.inj this
    rw [e]; exact this
theorem AStep.indexRd {α : Type} {enc : α → List AV} {sz : Nat} {x i : Operand} {T E : TypeId} {β : Bool} {xs : List α} {n : Nat} {k : IntKind} {j : Int} {y : α} (hd : d < C.N)
    (hx : Ev C s x (.rd β n (xs.flatMap enc))) (hi : Ev C s i (.sc (.int k j))) (hT : C.P.underlying T = some (.slice E)) (hE : szOf C.P E sz) (henc : ∀ y,(enc y).length = sz)
    (hn : n = xs.length) (hy : getIdx xs j = some y) : AStep C ⟨some d,.indexAddr T x i,ty,p,e,g⟩ s (s.put d (.rptr β (enc y))) :=
  .val hd (fun _ h => by cases h) fun ι a w r => by
    subst hn
    obtain ⟨h0,h1,h2⟩ := getIdx_some hy
    have hlt : j.toNat < xs.length := by omega
    rcases rd_inv (hx ι a w r) with ⟨_,hn,_⟩ | ⟨b,off,cap,vs,hu,hn,hc,hz,hv,h⟩
    · omega
    · have hsub : ∀ i,i < (enc y).length → (enc y)[i]? = (xs.flatMap enc)[j.toNat * sz + i]? := fun i hi => (flatMap_at henc xs _ h2 i (by rw [← henc y]; exact hi)).symm
      obtain ⟨q1,q2⟩ := VR.part (Z := fun _ => zone C s.heap ι w β) hv h hsub
      refine ⟨.pointer (some ⟨b,off + j.toNat * sz,none⟩),?_,.rptr _ _ _ _ _ _ _ (fun hne => hz ?_) q1 q2⟩
      · simp [execOp,hu,hi.sc r,Instr.indexAt,asIntOf,run_underlying hT,h0,h1,hE.run,Addr.add_plain]
      · intro hnil
        have hl := flatMap_length henc xs
        rw [hnil] at hl
        have hl' : (enc y).length = 0 := by
          rw [henc]
          have : 0 < xs.length := by omega
          rcases Nat.eq_zero_or_pos sz with h | h
          · exact h
          · have := Nat.mul_pos this h; simp at hl; omega
        exact hne (List.eq_nil_of_length_eq_zero hl')
theorem AStep.indexOwn {x i : Operand} {T E : TypeId} {t sz off n : Nat} {k : IntKind} {j : Int} (hd : d < C.N)
    (hx : Ev C s x (.own t sz off n)) (hi : Ev C s i (.sc (.int k j))) (hT : C.P.underlying T = some (.slice E)) (hE : szOf C.P E sz)
    (hj : 0 ≤ j ∧ j < n) : AStep C ⟨some d,.indexAddr T x i,ty,p,e,g⟩ s (s.put d (.ptr t (off + j.toNat * sz))) :=
  .val hd (fun _ h => by cases h) fun ι a w r => by
    rcases own_inv (hx ι a w r) with ⟨hn,_⟩ | ⟨b,cap,q,hu,ht,_⟩
    · omega
    · refine ⟨.pointer (some ⟨b,off + j.toNat * sz,none⟩),?_,.ptr _ _ _ _ _ ht⟩
      simp [execOp,hu,hi.sc r,Instr.indexAt,asIntOf,run_underlying hT,hj.1,hj.2,hE.run,Addr.add_plain]
def fldOf (P : Program) (T : TypeId) (k o : Nat) : Prop := ∃ fs f,P.underlying T = some (.struct fs) ∧ fs[k]? = some f ∧ f.offset = o ∧ ∃ n,szOf P f.type (n + 1)
theorem fldOf.run {P : Program} {T : TypeId} {k o : Nat} (h : fldOf P T k o) (b off : Nat) (w : World) : (Instr.fieldAt T (.pointer (some ⟨b,off,none⟩)) k).run P w = .ok (.pointer (some ⟨b,off + o,none⟩)) w := by
  obtain ⟨fs,f,hT,hf,rfl,n,hn⟩ := h
  simp [Instr.fieldAt,run_underlying hT,hf,Instr.sureAddr,fieldPlace,hn.run,Addr.add_plain]
theorem AStep.fieldP {x : Operand} {T : TypeId} {t off k o : Nat} (hd : d < C.N) (hx : Ev C s x (.ptr t off)) (hf : fldOf C.P T k o) :
    AStep C ⟨some d,.fieldAddr T x k,ty,p,e,g⟩ s (s.put d (.ptr t (off + o))) :=
  .val hd (fun _ h => by cases h) fun ι a w r => by
    obtain ⟨b,hu,ht⟩ := ptr_inv (hx ι a w r)
    exact ⟨_,by simp [execOp,hu,hf.run],.ptr _ _ _ _ _ ht⟩
theorem AStep.fieldR {x : Operand} {T : TypeId} {β : Bool} {cells sub : List AV} {k o : Nat} (hd : d < C.N) (hx : Ev C s x (.rptr β cells)) (hf : fldOf C.P T k o) (hs : sub = cells.drop o) :
    AStep C ⟨some d,.fieldAddr T x k,ty,p,e,g⟩ s (s.put d (.rptr β sub)) :=
  .val hd (fun _ h => by cases h) fun ι a w r => by
    subst hs
    obtain ⟨b,off,vs,hu,hz,hv,h⟩ := rptr_inv (hx ι a w r)
    obtain ⟨q1,q2⟩ := VR.part (Z := fun _ => zone C s.heap ι w β) (sub := cells.drop o) (o := o) hv h (fun i hi => by simp)
    refine ⟨_,by simp [execOp,hu,hf.run],.rptr _ _ _ _ _ _ _ (fun hne => hz (fun hnil => hne (by simp [hnil]))) q1 q2⟩
theorem AStep.loadR {x : Operand} {T : TypeId} {β : Bool} {c v : AV} {cells : List AV} (hd : d < C.N) (hx : Ev C s x (.rptr β (c :: cells))) (hT : oneT C.P T) (hv : v = c.flag β) :
    AStep C ⟨some d,.load T x,ty,p,e,g⟩ s (s.put d v) :=
  .val hd (fun _ h => by cases h) fun ι a w r => by
    subst hv
    obtain ⟨b,off,vs,hu,hz,hv,h⟩ := rptr_inv (hx ι a w r)
    have h0 := hv 0 (by simp)
    have h1 := h 0 (by simp)
    simp only [Nat.add_zero] at h0
    refine ⟨vs 0,?_,h1.flagged _ _ β (fun _ _ h => h) (fun _ _ _ h => by cases h)⟩
    simp [execOp,hu,Instr.loadAt,Instr.sureAddr,loadVar,hT.run,h0]
theorem cells_list {w : World} {Z : Zone} {ι : Tags} {cells : List AV} {b off : Nat} {vs : Nat → Value}
    (hv : ∀ i,i < cells.length → w.cell? ⟨b,off + i,none⟩ = some (vs i)) (h : ∀ i (hi : i < cells.length),VR w Z ι (cells[i]'hi) (vs i)) (n : Nat) (hn : n ≤ cells.length) (P : Program) :
    (loadCells ⟨b,off,none⟩ n).run P w = .ok ((List.range n).map vs).toArray w ∧ ∀ i (hi : i < (cells.take n).length),VR w Z ι ((cells.take n)[i]'hi) (((List.range n).map vs)[i]'(by simp at hi ⊢; omega)) := by
  constructor
  · have := run_loadCells (P := P) w ⟨b,off,none⟩ n vs (fun j hj => by rw [Addr.add_plain]; exact hv j (by omega))
    rw [this]
  · intro i hi
    simp at hi
    have := h i (by omega)
    simpa using this
theorem AStep.loadRA {x : Operand} {T : TypeId} {β : Bool} {n : Nat} {cells out : List AV} (hd : d < C.N) (hx : Ev C s x (.rptr β cells)) (hT : aggT C.P T n) (hn : n ≤ cells.length)
    (ho : out = AV.flagL β (cells.take n)) : AStep C ⟨some d,.load T x,ty,p,e,g⟩ s (s.put d (.agg out)) :=
  .val hd (fun _ h => by cases h) fun ι a w r => by
    subst ho
    obtain ⟨b,off,vs,hu,hz,hv,h⟩ := rptr_inv (hx ι a w r)
    obtain ⟨q1,q2⟩ := cells_list (Z := fun _ => zone C s.heap ι w β) hv h n hn C.P
    refine ⟨.agg ((List.range n).map vs).toArray,?_,.agg _ _ _ _ (by rw [AV.flagL_eq]; simp; omega) fun i hi => ?_⟩
    · simp [execOp,hu,Instr.loadAt,Instr.sureAddr,loadVar,hT.run,hT.1.run,q1]
    · have hi' : i < (cells.take n).length := by rw [AV.flagL_eq] at hi; simpa using hi
      have e : (AV.flagL β (cells.take n))[i]'hi = AV.flag β ((cells.take n)[i]'hi') := by simp [AV.flagL_eq]
      rw [e]
      exact (q2 i hi').flagged _ _ β (fun _ _ h => h) (fun _ _ _ h => by cases h)
theorem blk_inv {H : List (Nat × Blk)} {ι : Tags} {w : World} (hc : Core C H ι w) {t b : Nat} {k : Blk} (hk : look t H = some k) (hb : ι t = some b) :
    ∃ cur,w.heap[b]? = some (.cells cur k.ty (0,0)) ∧ k.cells.length ≤ cur.size ∧
      ∀ i (hi : i < k.cells.length),∃ u,cur[i]? = some u ∧ VR w (bif k.lst then fun _ => zone C H ι w false else zone C H ι w) (bif k.lst then fun _ => none else ι) (k.cells[i]'hi) u := by
  have h := hc.blk t k hk
  simp only [BlkR,hb] at h
  exact h
def Blk.out (k : Blk) (v : AV) : AV := bif k.lst then v.flag false else v
theorem out_VR {H : List (Nat × Blk)} {ι : Tags} {w : World} {k : Blk} {v : AV} {u : Value}
    (h : VR w (bif k.lst then fun _ => zone C H ι w false else zone C H ι w) (bif k.lst then fun _ => none else ι) v u) : VR w (zone C H ι w) ι (k.out v) u := by
  unfold Blk.out
  cases hl : k.lst with
  | false => simp only [hl,cond_false] at h ⊢; exact h
  | true => simp only [hl,cond_true] at h ⊢; exact h.flagged _ _ false (fun _ _ h => h) (fun _ _ _ h => by cases h)
theorem AStep.loadP {x : Operand} {T : TypeId} {t off : Nat} {k : Blk} {c v : AV} (hd : d < C.N) (hx : Ev C s x (.ptr t off)) (hT : oneT C.P T) (hk : look t s.heap = some k)
    (hc : k.cells[off]? = some c) (hv : v = k.out c) : AStep C ⟨some d,.load T x,ty,p,e,g⟩ s (s.put d v) :=
  .val hd (fun _ h => by cases h) fun ι a w r => by
    subst hv
    obtain ⟨b,hu,ht⟩ := ptr_inv (hx ι a w r)
    obtain ⟨cur,hb,hl,h⟩ := blk_inv r.core hk ht
    have hlt := (List.getElem?_eq_some_iff.1 hc).1
    obtain ⟨u,hu',hvr⟩ := h off hlt
    have he : k.cells[off] = c := by rw [List.getElem?_eq_getElem hlt] at hc; exact Option.some.inj hc
    rw [he] at hvr
    refine ⟨u,?_,out_VR hvr⟩
    have hcell : w.cell? ⟨b,off,none⟩ = some u := by rw [cell_of_row w b off cur k.ty (0,0) hb]; exact hu'
    simp [execOp,hu,Instr.loadAt,Instr.sureAddr,loadVar,hT.run,hcell]
theorem AStep.loadPA {x : Operand} {T : TypeId} {t off n : Nat} {k : Blk} {cells out : List AV} (hd : d < C.N) (hx : Ev C s x (.ptr t off)) (hT : aggT C.P T n) (hk : look t s.heap = some k)
    (hc : (k.cells.drop off).take n = cells) (hn : cells.length = n) (ho : out = cells.map k.out) : AStep C ⟨some d,.load T x,ty,p,e,g⟩ s (s.put d (.agg out)) :=
  .val hd (fun _ h => by cases h) fun ι a w r => by
    subst ho
    obtain ⟨b,hu,ht⟩ := ptr_inv (hx ι a w r)
    obtain ⟨cur,hb,hl,h⟩ := blk_inv r.core hk ht
    have hlen : off + n ≤ k.cells.length ∨ n = 0 := by
      rw [← hc] at hn
      simp at hn
      omega
    have hcell : ∀ j,j < n → w.cell? ((⟨b,off,none⟩ : Addr).add j) = some ((cur.toList.drop off).getD j undef) := by
      intro j hj
      rw [Addr.add_plain,cell_of_row w b (off + j) cur k.ty (0,0) hb]
      have : off + j < cur.size := by omega
      rw [Array.getElem?_eq_getElem this]
      simp [List.getD_eq_getElem?_getD,this]
    have hrun := run_loadCells (P := C.P) w ⟨b,off,none⟩ n _ hcell
    refine ⟨.agg ((List.range n).map fun j => (cur.toList.drop off).getD j undef).toArray,?_,.agg _ _ _ _ (by simp [hn]) fun i hi => ?_⟩
    · have e : (Array.range n).map (fun j => (cur.toList.drop off).getD j undef) = ((List.range n).map fun j => (cur.toList.drop off).getD j undef).toArray := by
        apply Array.ext'; simp
      simp [execOp,hu,Instr.loadAt,Instr.sureAddr,loadVar,hT.run,hT.1.run,hrun]
    · have hi' : i < cells.length := by simpa using hi
      have hi2 : off + i < k.cells.length := by omega
      obtain ⟨u,hu',hvr⟩ := h (off + i) hi2
      have e : cells[i] = k.cells[off + i] := by
        have : cells[i]? = k.cells[off + i]? := by rw [← hc,List.getElem?_take,if_pos (by omega),List.getElem?_drop]
        rw [List.getElem?_eq_getElem hi',List.getElem?_eq_getElem hi2] at this
        exact Option.some.inj this
      have hlt : off + i < cur.size := by omega
      have e2 : (cur.toList.drop off).getD i undef = u := by
        rw [Array.getElem?_eq_getElem hlt] at hu'
        simp [List.getD_eq_getElem?_getD,hlt]
        exact Option.some.inj hu'
      simp only [List.getElem_map,List.getElem_range,e2,e]
      exact out_VR hvr
theorem sliceAt_slice {P : Program} {w : World} {T E : TypeId} (hT : P.underlying T = some (.slice E)) {sz : Nat} (hE : szOf P E sz) (a : Option Addr) (n c : Nat) (lo hi : Option Value) (l h : Nat)
    (hlo : (lo = none ∧ l = 0) ∨ ∃ k,lo = some (.int k l)) (hhi : (hi = none ∧ h = n) ∨ ∃ k,hi = some (.int k h)) (h1 : l ≤ h) (h2 : h ≤ c) :
    (Instr.sliceAt T (.slice a n c) lo hi none).run P w = .ok (.slice (if c = l then a else a.map (·.add (l * sz))) (h - l) (c - l)) w := by
  have e1 : ∀ k code y,l ≤ y → (Instr.sliceBound (.int k l) y code).run P w = .ok l w := fun k code y hy => by
    have := run_sliceBound (P := P) w k (l : Int) y code (by omega) (by omega); simpa using this
  have e2 : ∀ k code y,h ≤ y → (Instr.sliceBound (.int k h) y code).run P w = .ok h w := fun k code y hy => by
    have := run_sliceBound (P := P) w k (h : Int) y code (by omega) (by omega); simpa using this
  rcases hlo with ⟨rfl,rfl⟩ | ⟨k1,rfl⟩ <;> rcases hhi with ⟨rfl,rfl⟩ | ⟨k2,rfl⟩ <;>
    simp [Instr.sliceAt,Instr.slice,run_underlying hT,Instr.sliceBounds,hE.run,e1,e2,h1,h2]
def Bd (C : Ctx) (s : St) (x : Option Operand) (dflt n : Nat) : Prop := (x = none ∧ n = dflt) ∨ ∃ y k,x = some y ∧ Ev C s y (.sc (.int k n))
theorem Bd.some {y : Operand} {k : IntKind} {j : Int} {dflt : Nat} (h : Ev C s y (.sc (.int k j))) (h0 : 0 ≤ j) : Bd C s (.some y) dflt j.toNat :=
  .inr ⟨y,k,rfl,by rw [Int.toNat_of_nonneg h0]; exact h⟩
theorem Bd.val {x : Option Operand} {dflt n : Nat} (h : Bd C s x dflt n) {ι : Tags} {a : Act} {w : World} (r : Rel C s ι a w) : (x.map a.eval = .none ∧ n = dflt) ∨ ∃ k,x.map a.eval = .some (.int k n) := by
  rcases h with ⟨rfl,rfl⟩ | ⟨y,k,rfl,hy⟩
  · exact .inl ⟨rfl,rfl⟩
  · exact .inr ⟨k,by simp [hy.sc r]⟩
theorem AStep.sliceRd {α : Type} {enc : α → List AV} {sz : Nat} {x : Operand} {lo hi : Option Operand} {T E : TypeId} {β : Bool} {xs : List α} {n l h : Nat} (hd : d < C.N)
    (hx : Ev C s x (.rd β n (xs.flatMap enc))) (hT : C.P.underlying T = some (.slice E)) (hE : szOf C.P E sz) (henc : ∀ y,(enc y).length = sz) (hn : n = xs.length)
    (hl : Bd C s lo 0 l) (hh : Bd C s hi n h) (h1 : l ≤ h) (h2 : h ≤ xs.length) :
    AStep C ⟨some d,.slice T x lo hi none,ty,p,e,g⟩ s (s.put d (.rd β (h - l) (((xs.drop l).take (h - l)).flatMap enc))) :=
  .val hd (fun _ h => by cases h) fun ι a w r => by
    subst hn
    have hlv := hl.val r
    have hhv := hh.val r
    rcases rd_inv (hx ι a w r) with ⟨⟨a0,hu⟩,hn,hcs⟩ | ⟨b,off,cap,vs,hu,hn,hc,hz,hv,hvr⟩
    · have hrun := sliceAt_slice (P := C.P) (w := w) hT hE a0 0 0 (lo.map a.eval) (hi.map a.eval) l h hlv (by rw [hn] at hhv; exact hhv) h1 (by omega)
      refine ⟨.slice a0 0 0,?_,?_⟩
      · simp [execOp,hu]
        rw [hrun]
        simp
        omega
      · have : xs = [] := List.eq_nil_of_length_eq_zero hn
        subst this
        have hl0 : h - l = 0 := by simp at h2; omega
        rw [hl0]
        simp
        exact .rdnil _ _ _ _
    · have hrun := sliceAt_slice (P := C.P) (w := w) hT hE (Option.some ⟨b,off,Option.none⟩) xs.length cap (lo.map a.eval) (hi.map a.eval) l h hlv hhv h1 (by omega)
      have hsub : ∀ i,i < (((xs.drop l).take (h - l)).flatMap enc).length → (((xs.drop l).take (h - l)).flatMap enc)[i]? = (xs.flatMap enc)[l * sz + i]? := fun i hi => by
        rw [← flatMap_take henc,← flatMap_drop henc] at hi ⊢
        rw [List.length_take] at hi
        rw [List.getElem?_take,if_pos (by omega),List.getElem?_drop]
      obtain ⟨q1,q2⟩ := VR.part (Z := fun _ => zone C s.heap ι w β) hv hvr hsub
      by_cases hcl : cap = l
      · have hl0 : h - l = 0 := by omega
        refine ⟨.slice (Option.some ⟨b,off,Option.none⟩) (h - l) (cap - l),?_,?_⟩
        · simp [execOp,hu]
          rw [hrun]
          simp [hcl]
        · rw [hl0]
          simp
          exact .rd _ _ _ _ _ _ _ _ (fun _ => undef) (fun h => absurd rfl h) (by omega) (by omega) (fun i hi => absurd hi (by simp)) (fun i hi => absurd hi (by simp))
      · refine ⟨.slice (Option.some ⟨b,off + l * sz,Option.none⟩) (h - l) (cap - l),?_,?_⟩
        · simp [execOp,hu]
          rw [hrun]
          simp [hcl,Addr.add_plain]
        · refine .rd _ _ _ _ _ _ _ _ _ (fun hne => hz fun hnil => hne ?_) (by omega) (by omega) q1 q2
          have hlen := flatMap_length henc ((xs.drop l).take (h - l))
          have hlen2 := flatMap_length henc xs
          rw [hnil] at hlen2
          rw [List.length_take,List.length_drop] at hlen
          apply List.eq_nil_of_length_eq_zero
          rw [hlen]
          rcases Nat.eq_zero_or_pos sz with h | hpos
          · simp [h]
          · have : xs.length = 0 := by
              rcases Nat.eq_zero_or_pos xs.length with h | h
              · exact h
              · have := Nat.mul_pos h hpos
                rw [← hlen2] at this
                exact absurd this (by simp)
            simp [this]
theorem AStep.sliceOwn {sz : Nat} {x : Operand} {lo hi : Option Operand} {T E : TypeId} {t off n l h : Nat} (hd : d < C.N)
    (hx : Ev C s x (.own t sz off n)) (hT : C.P.underlying T = some (.slice E)) (hE : szOf C.P E sz)
    (hl : Bd C s lo 0 l) (hh : Bd C s hi n h) (h1 : l ≤ h) (h2 : h ≤ n) :
    AStep C ⟨some d,.slice T x lo hi none,ty,p,e,g⟩ s (s.put d (.own t sz (off + l * sz) (h - l))) :=
  .val hd (fun _ h => by cases h) fun ι a w r => by
    have hlv := hl.val r
    have hhv := hh.val r
    rcases own_inv (hx ι a w r) with ⟨rfl,hu⟩ | ⟨b,cap,q,hu,ht,hn,hc,hs,ho⟩
    · have hh0 : h = 0 := by omega
      have hl0 : l = 0 := by omega
      subst hh0 hl0
      rcases hu with hu | ⟨b,o,hu⟩
      · have hrun := sliceAt_slice (P := C.P) (w := w) hT hE Option.none 0 0 (lo.map a.eval) (hi.map a.eval) 0 0 hlv hhv (by omega) (by omega)
        exact ⟨.slice Option.none 0 0,by simp [execOp,hu]; rw [hrun]; simp,by simpa using VR.ownnil _ _ t sz _⟩
      · have hrun := sliceAt_slice (P := C.P) (w := w) hT hE (Option.some ⟨b,o,Option.none⟩) 0 0 (lo.map a.eval) (hi.map a.eval) 0 0 hlv hhv (by omega) (by omega)
        exact ⟨.slice (Option.some ⟨b,o,Option.none⟩) 0 0,by simp [execOp,hu]; rw [hrun]; simp,by simpa using VR.ownz _ _ t sz _ b o⟩
    · have hrun := sliceAt_slice (P := C.P) (w := w) hT hE (Option.some ⟨b,off,Option.none⟩) n cap (lo.map a.eval) (hi.map a.eval) l h hlv hhv h1 (by omega)
      by_cases hcl : cap = l
      · have hl0 : h - l = 0 := by omega
        refine ⟨.slice (Option.some ⟨b,off,Option.none⟩) (h - l) (cap - l),by simp [execOp,hu]; rw [hrun]; simp [hcl],?_⟩
        rw [hl0,hcl,Nat.sub_self]
        exact .ownz _ _ _ _ _ _ _
      · refine ⟨.slice (Option.some ⟨b,off + l * sz,Option.none⟩) (h - l) (cap - l),by simp [execOp,hu]; rw [hrun]; simp [hcl,Addr.add_plain],?_⟩
        refine .own _ _ _ _ _ _ b _ q ht (by omega) (by omega) hs ?_
        have : cap * sz = l * sz + (cap - l) * sz := by rw [← Nat.add_mul]; congr 1; omega
        omega
end
end Go.AB
namespace Go.AB
open Go
def purgeA (t : Nat) (v : AV) : AV := bif AV.free t v then v else .any
def purgeE (t : Nat) : List (Nat × AV) → List (Nat × AV)
  | [] => []
  | (d,v) :: l => (d,purgeA t v) :: purgeE t l
def purgeB (t : Nat) (k : Blk) : Blk := bif k.lst then k else { k with cells := k.cells.map (purgeA t) }
def purgeH (t : Nat) : List (Nat × Blk) → List (Nat × Blk)
  | [] => []
  | (t',k) :: l => bif Nat.beq t t' then purgeH t l else (t',purgeB t k) :: purgeH t l
def updH (t : Nat) (k : Blk) : List (Nat × Blk) → List (Nat × Blk)
  | [] => []
  | (t',k') :: l => bif Nat.beq t t' then (t',k) :: l else (t',k') :: updH t k l
theorem beq_ne {a b : Nat} (h : a ≠ b) : Nat.beq a b = false := by rw [← Bool.not_eq_true,Nat.beq_eq]; exact h
theorem look_purgeE (t d : Nat) : ∀ l : List (Nat × AV),look d (purgeE t l) = (look d l).map (purgeA t)
  | [] => rfl
  | (d',v) :: l => by
    by_cases h : d = d'
    · subst h; simp [purgeE,look]
    · simp only [purgeE,look,beq_ne h,cond_false]; exact look_purgeE t d l
theorem look_purgeH_ne {t t' : Nat} (h : t' ≠ t) : ∀ l : List (Nat × Blk),look t' (purgeH t l) = (look t' l).map (purgeB t)
  | [] => rfl
  | (t1,k) :: l => by
    by_cases h1 : t = t1
    · subst h1
      simp only [purgeH,Nat.beq_refl,cond_true,look,beq_ne h,cond_false]
      exact look_purgeH_ne h l
    · simp only [purgeH,beq_ne h1,cond_false]
      by_cases h2 : t' = t1
      · subst h2; simp [look]
      · simp only [look,beq_ne h2,cond_false]; exact look_purgeH_ne h l
theorem look_purgeH_self (t : Nat) : ∀ l : List (Nat × Blk),look t (purgeH t l) = none
  | [] => rfl
  | (t1,k) :: l => by
    by_cases h1 : t = t1
    · subst h1; simp only [purgeH,Nat.beq_refl,cond_true]; exact look_purgeH_self t l
    · simp only [purgeH,beq_ne h1,cond_false,look]; exact look_purgeH_self t l
theorem look_updH_ne {t t' : Nat} (h : t' ≠ t) (k : Blk) : ∀ l : List (Nat × Blk),look t' (updH t k l) = look t' l
  | [] => rfl
  | (t1,k1) :: l => by
    by_cases h1 : t = t1
    · subst h1; simp [updH,look,beq_ne h]
    · simp only [updH,beq_ne h1,cond_false]
      by_cases h2 : t' = t1
      · subst h2; simp [look]
      · simp only [look,beq_ne h2,cond_false]; exact look_updH_ne h k l
theorem look_updH_self {t : Nat} (k : Blk) : ∀ l : List (Nat × Blk),has t l → look t (updH t k l) = some k
  | [],h => by obtain ⟨v,h⟩ := h; cases h
  | (t1,k1) :: l,h => by
    by_cases h1 : t = t1
    · subst h1; simp [updH,look]
    · simp only [updH,beq_ne h1,cond_false,look]
      refine look_updH_self k l ?_
      obtain ⟨v,h⟩ := h
      simp only [look,beq_ne h1,cond_false] at h
      exact ⟨v,h⟩
theorem has_updH {t t' : Nat} {k : Blk} {l : List (Nat × Blk)} (ht : has t l) : has t' (updH t k l) ↔ has t' l := by
  by_cases h : t' = t
  · subst h; exact ⟨fun _ => ht,fun _ => ⟨k,look_updH_self k l ht⟩⟩
  · unfold has; rw [look_updH_ne h]
theorem has_purgeH {t t' : Nat} {l : List (Nat × Blk)} : has t' (purgeH t l) ↔ t' ≠ t ∧ has t' l := by
  by_cases h : t' = t
  · subst h; unfold has; rw [look_purgeH_self]; simp
  · unfold has; rw [look_purgeH_ne h]
    constructor
    · rintro ⟨v,hv⟩
      cases hl : look t' l with
      | none => rw [hl] at hv; cases hv
      | some k => exact ⟨h,k,rfl⟩
    · rintro ⟨_,k,hk⟩; exact ⟨_,by rw [hk]; rfl⟩
theorem purgeA_VR {w w' : World} {Z Z' : Zone} {ι ι' : Tags} {t : Nat} {v : AV} {u : Value} (hsz : ∀ b n,bsz w b = some n → bsz w' b = some n)
    (hZ : ∀ β b,Z β b → Z' β b) (hcell : ∀ β b o u,Z β b → w.cell? ⟨b,o,none⟩ = some u → w'.cell? ⟨b,o,none⟩ = some u)
    (hι : ∀ t' b,t' ≠ t → ι t' = some b → ι' t' = some b) (h : VR w Z ι v u) : VR w' Z' ι' (purgeA t v) u := by
  unfold purgeA
  cases hf : AV.free t v with
  | false => exact .any _ _ _
  | true =>
    refine h.mono hsz _ _ hZ hcell fun t' b ht' => hι t' b ?_
    intro e; subst e; rw [hf] at ht'; cases ht'
def setT (ι : Tags) (t b : Nat) : Tags := fun x => if x = t then some b else ι x
theorem Rel.new {C : Ctx} {s : St} {ι : Tags} {a : Act} {w w' : World} (r : Rel C s ι a w) {t d : Nat} {k : Blk} {v : AV} {u : Value} {b : Nat} (hd : d < C.N) (hK : t ∉ C.K)
    (hos : w'.os = w.os) (htape : w'.tape = w.tape) (hout : w'.output = w.output) (hsize : w.heap.size ≤ w'.heap.size)
    (hold : ∀ i,i < w.heap.size → w'.heap[i]? = w.heap[i]?) (hb0 : w.heap.size ≤ b)
    (hk : ∀ Z',(∀ β x,zone C s.heap ι w β x → Z' β x) → BlkR w' Z' (setT ι t b) t k) (hv : ∀ Z',(∀ β x,zone C s.heap ι w β x → Z' β x) → VR w' Z' (setT ι t b) v u) :
    Rel C ⟨(d,v) :: purgeE t s.env,(t,k) :: purgeH t s.heap⟩ (setT ι t b) (a.put (some d) u) w' := by
  have hZ : ∀ β x,zone C s.heap ι w β x → zone C ((t,k) :: purgeH t s.heap) (setT ι t b) w' β x := by
    rintro β x ⟨h1,h2,h3⟩
    refine ⟨by omega,fun t' ht' => ?_,h3⟩
    by_cases e : t' = t
    · subst e; simp [setT]; omega
    · simp only [setT,if_neg e]
      refine h2 t' ?_
      obtain ⟨q,hq⟩ := ht'
      rw [look_cons_ne e] at hq
      exact (has_purgeH.1 ⟨q,hq⟩).2
  have hcell : ∀ β x o y,zone C s.heap ι w β x → w.cell? ⟨x,o,none⟩ = some y → w'.cell? ⟨x,o,none⟩ = some y := by
    rintro β x o y ⟨h1,_,_⟩ hy
    rw [World.cell?_of_block (a := ⟨x,o,none⟩) (hold x h1)]; exact hy
  have hsz : ∀ x n,bsz w x = some n → bsz w' x = some n := by
    intro x n hx
    have hx1 : x < w.heap.size := by
      rcases Nat.lt_or_ge x w.heap.size with h | h
      · exact h
      · simp [bsz,Array.getElem?_eq_none h] at hx
    simp only [bsz,hold x hx1]; exact hx
  have hι : ∀ t' x,t' ≠ t → ι t' = some x → setT ι t b t' = some x := fun t' x hne hx => by simp only [setT,if_neg hne]; exact hx
  have hsize' := r.size
  refine ⟨by simp [Act.put,r.size],by simp [Act.put,r.dfr],?_,⟨?_,?_,?_,?_⟩,fun t' ht' => by
    have hne : t' ≠ t := fun h => hK (h ▸ ht')
    simp only [setT,if_neg hne]; exact r.stab t' ht'⟩
  · intro d' v' hl
    by_cases e : d' = d
    · subst e
      rw [look_cons_self] at hl
      cases hl
      have : (a.put (some d') u).tmps.getD d' undef = u := by
        simp [Act.put,Array.getD_eq_getD_getElem?,hsize',hd]
      rw [this]
      exact hv _ hZ
    · rw [look_cons_ne e,look_purgeE] at hl
      have : (a.put (some d) u).tmps.getD d' undef = a.tmps.getD d' undef := by
        simp only [Act.put,Array.getD_eq_getD_getElem?,Array.getElem?_setIfInBounds]
        rw [if_neg (fun h => e h.symm)]
      rw [this]
      cases hq : look d' s.env with
      | none => rw [hq] at hl; cases hl
      | some q =>
        rw [hq] at hl
        simp only [Option.map_some,Option.some.injEq] at hl
        subst hl
        exact purgeA_VR hsz hZ hcell hι (r.env d' q hq)
  · intro t' k' hl
    by_cases e : t' = t
    · subst e
      rw [look_cons_self] at hl
      cases hl
      exact hk _ hZ
    · rw [look_cons_ne e,look_purgeH_ne e] at hl
      cases hq : look t' s.heap with
      | none => rw [hq] at hl; cases hl
      | some q =>
        rw [hq] at hl
        simp only [Option.map_some,Option.some.injEq] at hl
        subst hl
        have h0 := r.core.blk t' q hq
        have ht' : setT ι t b t' = ι t' := by simp [setT,e]
        unfold BlkR at h0 ⊢
        rw [ht']
        cases hx : ι t' with
        | none =>
          simp only [hx] at h0 ⊢
          obtain ⟨h1,h2⟩ := h0
          simp [purgeB,h2,h1]
        | some x =>
          simp only [hx] at h0 ⊢
          obtain ⟨cur,h1,h2,h3⟩ := h0
          have hxs : x < w.heap.size := (Array.getElem?_eq_some_iff.1 h1).1
          refine ⟨cur,?_,?_,?_⟩
          · rw [hold x hxs,h1]
            unfold purgeB
            cases q.lst <;> rfl
          · unfold purgeB
            cases q.lst <;> simpa using h2
          · intro i hi
            obtain ⟨qt,ql,qc⟩ := q
            cases ql with
            | true =>
              obtain ⟨y,hy,hvr⟩ := h3 i hi
              exact ⟨y,hy,hvr.mono hsz _ _ (fun _ z hz => hZ _ _ hz) (fun _ z o y hz => hcell _ z o y hz) (fun _ _ _ h => h)⟩
            | false =>
              have hi' : i < qc.length := by simpa [purgeB] using hi
              obtain ⟨y,hy,hvr⟩ := h3 i hi'
              refine ⟨y,hy,?_⟩
              have e : (purgeB t ⟨qt,false,qc⟩).cells[i]'hi = purgeA t (qc[i]'hi') := by simp [purgeB]
              rw [e]
              exact purgeA_VR hsz hZ hcell hι hvr
  · intro t1 t2 x h1 h2 e1 e2
    have key : ∀ t',has t' ((t,k) :: purgeH t s.heap) → t' ≠ t → has t' s.heap := by
      rintro t' ⟨q,hq⟩ hne
      rw [look_cons_ne hne] at hq
      exact (has_purgeH.1 ⟨q,hq⟩).2
    have hlt : ∀ t' x,has t' s.heap → ι t' = some x → x < w.heap.size := by
      rintro t' x ⟨q,hq⟩ hx
      have h0 := r.core.blk t' q hq
      simp only [BlkR,hx] at h0
      obtain ⟨cur,h1,_⟩ := h0
      exact (Array.getElem?_eq_some_iff.1 h1).1
    by_cases q1 : t1 = t <;> by_cases q2 : t2 = t
    · rw [q1,q2]
    · simp only [setT,if_pos q1,if_neg q2] at e1 e2
      have := hlt t2 x (key t2 h2 q2) e2
      cases e1; omega
    · simp only [setT,if_neg q1,if_pos q2] at e1 e2
      have := hlt t1 x (key t1 h1 q1) e1
      cases e2; omega
    · simp only [setT,if_neg q1,if_neg q2] at e1 e2
      exact r.core.inj t1 t2 x (key t1 h1 q1) (key t2 h2 q2) e1 e2
  · intro t' x h1 e1
    by_cases q : t' = t
    · simp only [setT,if_pos q] at e1
      cases e1
      have := r.core.tr.size
      left; omega
    · simp only [setT,if_neg q] at e1
      obtain ⟨z,hz⟩ := h1
      rw [look_cons_ne q] at hz
      exact r.core.own t' x (has_purgeH.1 ⟨z,hz⟩).2 e1
  · have tr := r.core.tr
    exact ⟨hos.trans tr.os,htape.trans tr.tape,hout.trans tr.output,Nat.le_trans tr.size hsize,fun i hi hn => (hold i (Nat.lt_of_lt_of_le hi tr.size)).trans (tr.block i hi hn),fun x n h => hsz x n (tr.bsz x n h)⟩
theorem Rel.write {C : Ctx} {s : St} {ι : Tags} {a : Act} {w w' : World} (r : Rel C s ι a w) {t b : Nat} {k k' : Blk} (hk : look t s.heap = some k) (ht : ι t = some b)
    (hos : w'.os = w.os) (htape : w'.tape = w.tape) (hout : w'.output = w.output) (hsize : w'.heap.size = w.heap.size)
    (hold : ∀ i,i ≠ b → w'.heap[i]? = w.heap[i]?) {cur cur' : Array Value} (hb : w.heap[b]? = some (.cells cur k.ty (0,0))) (hb' : w'.heap[b]? = some (.cells cur' k'.ty (0,0)))
    (hcs : cur'.size = cur.size) (hl : k'.cells.length ≤ cur'.size)
    (hc : ∀ i (hi : i < k'.cells.length),∃ u,cur'[i]? = some u ∧ VR w' (bif k'.lst then fun _ => zone C s.heap ι w false else zone C s.heap ι w) (bif k'.lst then fun _ => none else ι) (k'.cells[i]'hi) u) :
    Rel C ⟨s.env,updH t k' s.heap⟩ ι a w' := by
  have hh : has t s.heap := ⟨k,hk⟩
  have hZ : ∀ β x,zone C s.heap ι w β x → zone C (updH t k' s.heap) ι w' β x := by
    rintro β x ⟨h1,h2,h3⟩
    exact ⟨by omega,fun t' ht' => h2 t' ((has_updH hh).1 ht'),h3⟩
  have hcell : ∀ β x o y,zone C s.heap ι w β x → w.cell? ⟨x,o,none⟩ = some y → w'.cell? ⟨x,o,none⟩ = some y := by
    rintro β x o y ⟨_,h2,_⟩ hy
    have hne : x ≠ b := fun e => h2 t hh (by rw [ht,e])
    rw [World.cell?_of_block (a := ⟨x,o,none⟩) (hold x hne)]; exact hy
  have hsz : ∀ x n,bsz w x = some n → bsz w' x = some n := by
    intro x n hx
    by_cases e : x = b
    · subst e
      simp only [bsz,hb] at hx
      simp only [bsz,hb',hcs]
      exact hx
    · simp only [bsz,hold x e]; exact hx
  refine ⟨r.size,r.dfr,?_,⟨?_,?_,?_,?_⟩,r.stab⟩
  · intro d v hl
    exact (r.env d v hl).mono hsz _ _ hZ hcell (fun _ _ _ h => h)
  · intro t' q hl'
    by_cases e : t' = t
    · subst e
      rw [look_updH_self k' s.heap hh] at hl'
      cases hl'
      unfold BlkR
      rw [ht]
      refine ⟨cur',hb',hl,fun i hi => ?_⟩
      obtain ⟨u,hu,hvr⟩ := hc i hi
      refine ⟨u,hu,hvr.mono (fun _ _ h => h) _ _ ?_ (fun _ _ _ _ _ h => h) (fun _ _ _ h => h)⟩
      cases k'.lst with
      | true => exact fun _ z hz => hZ _ _ hz
      | false => exact hZ
    · rw [look_updH_ne e] at hl'
      have h0 := r.core.blk t' q hl'
      unfold BlkR at h0 ⊢
      cases hx : ι t' with
      | none => simp only [hx] at h0 ⊢; exact h0
      | some x =>
        simp only [hx] at h0 ⊢
        obtain ⟨c0,h1,h2,h3⟩ := h0
        have hne : x ≠ b := fun e' => e (r.core.inj t' t b ⟨q,hl'⟩ hh (by rw [hx,e']) ht)
        refine ⟨c0,by rw [hold x hne]; exact h1,h2,fun i hi => ?_⟩
        obtain ⟨u,hu,hvr⟩ := h3 i hi
        refine ⟨u,hu,hvr.mono hsz _ _ ?_ ?_ (fun _ _ _ h => h)⟩
        · cases q.lst with
          | true => exact fun _ z hz => hZ _ _ hz
          | false => exact hZ
        · cases q.lst with
          | true => exact fun _ z o y hz => hcell _ z o y hz
          | false => exact hcell
  · intro t1 t2 x h1 h2
    exact r.core.inj t1 t2 x ((has_updH hh).1 h1) ((has_updH hh).1 h2)
  · intro t' x h1
    exact r.core.own t' x ((has_updH hh).1 h1)
  · have tr := r.core.tr
    refine ⟨hos.trans tr.os,htape.trans tr.tape,hout.trans tr.output,by rw [hsize]; exact tr.size,fun i hi hn => ?_,fun x n h => hsz x n (tr.bsz x n h)⟩
    rw [hold i ?_]
    · exact tr.block i hi hn
    · intro e
      subst e
      rcases r.core.own t i hh ht with h | h
      · omega
      · exact hn h
end Go.AB
namespace Go.AB
open Go
section
variable {C : Ctx} {d : Nat} {ty : TypeId} {p : String} {e : Array Edge} {g : Option (Nat × Bool)} {s : St}
def zeroT (P : Program) (T : TypeId) (z : List Value) : Prop := ∃ i v,P.info? T = some i ∧ i.zero = some v ∧ v.cells.toList = z ∧ i.size = z.length
theorem zeroT.mk {P : Program} {T : TypeId} {z : List Value} (h : (P.info? T).map (fun i => (i.zero.map (·.cells.toList),i.size)) = some (some z,z.length)) : zeroT P T z := by
  cases hi : P.info? T with
  | none => rw [hi] at h; cases h
  | some i =>
    rw [hi] at h
    simp only [Option.map_some,Option.some.injEq,Prod.mk.injEq] at h
    cases hz : i.zero with
    | none => rw [hz] at h; cases h.1
    | some v => rw [hz] at h; exact ⟨i,v,hi,hz,by simpa using h.1,h.2⟩
def St.newP (s : St) (d t : Nat) (k : Blk) (v : AV) : St := ⟨(d,v) :: purgeE t s.env,(t,k) :: purgeH t s.heap⟩
theorem sc_list {w : World} {Z : Zone} {ι : Tags} {cells : List AV} {z : List Value} (h : cells = z.map .sc) : ∀ i (hi : i < cells.length),∃ u,z[i]? = some u ∧ VR w Z ι (cells[i]'hi) u := by
  subst h
  intro i hi
  have hi' : i < z.length := by simpa using hi
  exact ⟨z[i],List.getElem?_eq_getElem hi',by simpa using VR.sc _ _ _⟩
theorem AStep.alloc {T : TypeId} {z : List Value} {t : Nat} {k : Blk} (hd : d < C.N) (hK : t ∉ C.K) (hz : zeroT C.P T z) (hk : k.cells = z.map .sc) (hty : k.ty = T) :
    AStep C ⟨some d,.alloc T,ty,p,e,g⟩ s (s.newP d t k (.ptr t 0)) :=
  .run (fun _ h => by cases h) fun ι a w r => by
    obtain ⟨i,v,hi,hv,hvz,hsz⟩ := hz
    refine ⟨.pointer (some ⟨w.heap.size,0,none⟩),w.alloc (.cells v.cells T),setT ι t w.heap.size,?_,?_⟩
    · simp [execOp,Instr.alloc,zeroValue,typeInfo,hi,hv,newVar,newRow]
    · refine r.new hd hK rfl rfl rfl (by simp) (fun j hj => heap_alloc_old w _ hj) (Nat.le_refl _) (fun Z' hZ' => ?_) (fun Z' hZ' => ?_)
      · simp only [BlkR,setT,if_true]
        refine ⟨v.cells,by rw [hty]; exact heap_alloc_new w _,by rw [hk,← hvz]; simp,fun i hi => ?_⟩
        obtain ⟨u,hu,hvr⟩ := sc_list (w := w.alloc (.cells v.cells T)) (Z := bif k.lst then fun _ => Z' false else Z') (ι := bif k.lst then fun _ => none else setT ι t w.heap.size) hk i hi
        exact ⟨u,by rw [← hvz] at hu; simpa using hu,hvr⟩
      · exact .ptr _ _ _ _ _ (by simp [setT])
def AV.still : AV → Bool
  | .sc _ => true
  | .rd β _ _ => !β
  | .rdx β _ _ => !β
  | _ => false
theorem VR.still {w : World} {Z : Zone} {ι : Tags} {v : AV} {u : Value} (h : VR w Z ι v u) (hs : v.still = true) : VR w (fun _ => Z false) (fun _ => none) v u := by
  cases h <;> simp_all [AV.still]
  · exact .sc _ _ _
  · exact .rdnil _ _ _ _
  · exact .rd _ _ _ _ _ _ _ _ _ ‹_› ‹_› ‹_› ‹_› ‹_›
  · exact .rdx _ _ _ _ _ _ _ _ ‹_› ‹_› ‹_› ‹_›
  · exact .rdxnil _ _ _ _
def AV.one : AV → Bool
  | .sc (.agg _) => false
  | .sc (.tuple _) => false
  | .agg _ => false
  | .tup _ => false
  | .gd _ _ => false
  | .any => false
  | _ => true
theorem VR.one {w : World} {Z : Zone} {ι : Tags} {v : AV} {u : Value} (h : VR w Z ι v u) (hs : v.one = true) : u.oneCell' = true ∧ u.cells = #[u] := by
  cases h with
  | sc => cases u <;> simp_all [AV.one,Value.oneCell',Value.cells]
  | gd => simp [AV.one] at hs
  | any => simp [AV.one] at hs
  | agg => simp [AV.one] at hs
  | tup => simp [AV.one] at hs
  | _ => exact ⟨rfl,rfl⟩
theorem setIfInBounds_toList (cur : Array Value) (i : Nat) (u : Value) : (cur.setIfInBounds i u).size = cur.size := by simp
theorem AStep.storeP {x y : Operand} {T : TypeId} {t off : Nat} {k : Blk} {v : AV} {cells : List AV} (hx : Ev C s x (.ptr t off)) (hy : Ev C s y v) (hT : szOf C.P T 1) (hk : look t s.heap = some k)
    (hlt : off < k.cells.length) (h1 : v.one = true) (hst : k.lst = true → v.still = true) (hc : cells = k.cells.set off v) :
    AStep C ⟨none,.store T x y,ty,p,e,g⟩ s ⟨s.env,updH t { k with cells := cells } s.heap⟩ :=
  .runSkip (fun _ h => by cases h) fun ι a w r => by
    subst hc
    obtain ⟨b,hu,ht⟩ := ptr_inv (hx ι a w r)
    obtain ⟨cur,hb,hl,h⟩ := blk_inv r.core hk ht
    have hvy := hy ι a w r
    obtain ⟨o1,o2⟩ := hvy.one h1
    have hoff : off < cur.size := by omega
    refine ⟨w.setCell ⟨b,off,none⟩ (a.eval y),ι,?_,?_⟩
    · have hcell : w.cell? ⟨b,off,none⟩ = some cur[off] := by
        rw [cell_of_row w b off cur k.ty (0,0) hb]; exact Array.getElem?_eq_getElem hoff
      have hfr : w.frozen? ⟨b,off,none⟩ = false := frozen_of_row w b off cur k.ty hb
      have hst := run_store C.P w ⟨b,off,none⟩ (a.eval y) .plain o1
      have hst' : (store ⟨b,off,none⟩ (a.eval y)).run C.P w = .ok () (w.setCell ⟨b,off,none⟩ (a.eval y)) := by
        rw [hst]; simp [hcell,hfr]
      simp [execOp,hu,Instr.storeAt,Instr.sureAddr,storeVar,hT.run,o2,storeCells,Addr.add_plain,hst']
    · have hw := r.write (w' := w.setCell ⟨b,off,none⟩ (a.eval y)) hk ht rfl rfl rfl (by simp [World.setCell]) (fun i hi => heap_setCell_other w _ i _ hi)
        (k' := { k with cells := k.cells.set off v }) (cur := cur) (cur' := cur.setIfInBounds off (a.eval y)) hb (heap_setCell_same w b off cur k.ty _ hb) (by simp) (by simpa using hl) ?_
      · exact hw
      · intro i hi
        have hi' : i < k.cells.length := by simpa using hi
        have hsz : ∀ b' n,bsz w b' = some n → bsz (w.setCell ⟨b,off,none⟩ (a.eval y)) b' = some n := by
          intro b' n hn
          by_cases e : b' = b
          · subst e
            have hh := heap_setCell_same w b' off cur k.ty (a.eval y) hb
            simp only [bsz,hb] at hn
            simp only [bsz,hh,setIfInBounds_toList]
            exact hn
          · have hh := heap_setCell_other w ⟨b,off,none⟩ b' (a.eval y) e
            simp only [bsz,hh]
            exact hn
        have hcell : ∀ β x o y',zone C s.heap ι w β x → w.cell? ⟨x,o,none⟩ = some y' → (w.setCell ⟨b,off,none⟩ (a.eval y)).cell? ⟨x,o,none⟩ = some y' := by
          rintro β x o y' ⟨_,h2,_⟩ hy'
          have hne : x ≠ b := fun e => h2 t ⟨k,hk⟩ (by rw [ht,e])
          rw [World.cell?_of_block (a := ⟨x,o,none⟩) (heap_setCell_other w ⟨b,off,none⟩ x (a.eval y) hne)]; exact hy'
        by_cases e : i = off
        · subst e
          refine ⟨a.eval y,by simp [hoff],?_⟩
          simp only [List.getElem_set_self]
          cases hl' : k.lst with
          | true => exact (hvy.still (hst hl')).mono hsz _ _ (fun _ _ h => h) (fun _ x o y' hz => hcell false x o y' hz) (fun _ _ _ h => h)
          | false => exact hvy.mono hsz _ _ (fun _ _ h => h) hcell (fun _ _ _ h => h)
        · obtain ⟨u,hu',hvr⟩ := h i hi'
          refine ⟨u,by simp [Ne.symm e,hu'],?_⟩
          rw [List.getElem_set_ne (fun h => e h.symm)]
          refine hvr.mono hsz _ _ (fun _ _ h => h) ?_ (fun _ _ _ h => h)
          cases k.lst with
          | true => exact fun _ x o y' hz => hcell false x o y' hz
          | false => exact hcell
def Src (C : Ctx) (s : St) (x : Operand) (sz m : Nat) (ys : List AV) : Prop :=
  ∀ ι a w,Rel C s ι a w → ∃ news : List Value,(Builtin.lenOf (a.eval x)).run C.P w = .ok m w ∧
    (∀ w',w'.heap = w.heap → (Builtin.firstCells sz m (a.eval x)).run C.P w' = .ok news.toArray w') ∧ news.length = m * sz ∧ ys.length = m * sz ∧ (∀ u ∈ news,u.oneCell' = true) ∧
    ∀ i (hi : i < ys.length),∃ u,news[i]? = some u ∧ VR w (fun _ => zone C s.heap ι w false) (fun _ => none) (ys[i]'hi) u
theorem cell?_heap {w w' : World} (h : w'.heap = w.heap) (a : Addr) : w'.cell? a = w.cell? a := by simp [World.cell?,h]
theorem firstCells_some {P : Program} {w' : World} {sz m b off c : Nat} {news : List Value} (hl : news.length = m * sz) (h : ∀ j,j < m * sz → w'.cell? ⟨b,off + j,none⟩ = news[j]?) :
    (Builtin.firstCells sz m (.slice (some ⟨b,off,none⟩) m c)).run P w' = .ok news.toArray w' :=
  run_firstCells_some (P := P) w' sz m ⟨b,off,none⟩ m c news hl fun j u hu => by
    rw [Addr.add_plain]
    have : j < news.length := (List.getElem?_eq_some_iff.1 hu).1
    rw [h j (by omega)]; exact hu
theorem Src.rd {x : Operand} {sz m : Nat} {β : Bool} {ys : List AV} (hx : Ev C s x (.rd β m ys)) (hl : ys.length = m * sz) (h1 : ∀ c ∈ ys,c.one = true) (hβ : β = false ∨ ∀ c ∈ ys,c.scal = true) : Src C s x sz m ys :=
  fun ι a w r => by
    rcases rd_inv (hx ι a w r) with ⟨⟨a0,hu⟩,rfl,rfl⟩ | ⟨b,off,cap,vs,hu,hn,hc,hz,hv,h⟩
    · exact ⟨[],by simp [hu,Builtin.lenOf],fun w' _ => by rw [hu]; cases a0 with | none => simp [Builtin.firstCells] | some a1 => simp [Builtin.firstCells,loadCells,loadCellsFrom],by simp,by simp,by simp,fun i hi => absurd hi (by simp)⟩
    · refine ⟨(List.range ys.length).map vs,by simp [hu,Builtin.lenOf],fun w' hw' => ?_,by simp [hl],hl,?_,fun i hi => ?_⟩
      · rw [hu]
        refine firstCells_some (by simp [hl]) fun j hj => ?_
        rw [cell?_heap hw',hv j (by omega)]
        simp [show j < ys.length by omega]
      · intro u hu'
        simp only [List.mem_map,List.mem_range] at hu'
        obtain ⟨j,hj,rfl⟩ := hu'
        exact ((h j hj).one (h1 _ (List.getElem_mem hj))).1
      · refine ⟨vs i,by simp [hi],?_⟩
        rcases hβ with rfl | hs
        · exact h i hi
        · have h2 := hs _ (List.getElem_mem hi)
          have h3 := h i hi
          generalize ys[i] = q at h2 h3
          cases q <;> simp [AV.scal] at h2
          rw [sc_inv h3]; exact .sc _ _ _
theorem Src.own {x : Operand} {t sz off m : Nat} {k : Blk} {ys : List AV} (hx : Ev C s x (.own t sz off m)) (hk : look t s.heap = some k) (hy : ys = (k.cells.drop off).take (m * sz))
    (hl : ys.length = m * sz) (h1 : ∀ c ∈ ys,c.one = true) (hst : k.lst = true ∨ ∀ c ∈ ys,c.still = true) : Src C s x sz m ys :=
  fun ι a w r => by
    rcases own_inv (hx ι a w r) with ⟨rfl,hu⟩ | ⟨b,cap,q,hu,ht,hn,hc,hs,ho⟩
    · have hl' : ys = [] := List.eq_nil_of_length_eq_zero (by simpa using hl)
      subst hl'
      rcases hu with hu | ⟨b,o,hu⟩
      · exact ⟨[],by simp [hu,Builtin.lenOf],fun w' _ => by simp [hu,Builtin.firstCells],by simp,by simp,by simp,fun i hi => absurd hi (by simp)⟩
      · refine ⟨[],by simp [hu,Builtin.lenOf],fun w' _ => ?_,by simp,by simp,by simp,fun i hi => absurd hi (by simp)⟩
        rw [hu]; exact firstCells_some (by simp) fun j hj => absurd hj (by simp)
    · obtain ⟨cur,hb,hlc,h⟩ := blk_inv r.core hk ht
      have hlen : off + m * sz ≤ k.cells.length ∨ m * sz = 0 := by
        rw [hy] at hl; simp at hl; omega
      have hget : ∀ i (hi : i < ys.length),∃ h' : off + i < k.cells.length,ys[i] = k.cells[off + i] := fun i hi => by
        have h' : off + i < k.cells.length := by omega
        refine ⟨h',?_⟩
        have : ys[i]? = k.cells[off + i]? := by rw [hy,List.getElem?_take,if_pos (by omega),List.getElem?_drop]
        rw [List.getElem?_eq_getElem hi,List.getElem?_eq_getElem h'] at this
        exact Option.some.inj this
      have hnl : ((cur.toList.drop off).take (m * sz)).length = m * sz := by simp; omega
      refine ⟨(cur.toList.drop off).take (m * sz),by simp [hu,Builtin.lenOf],fun w' hw' => ?_,hnl,hl,?_,fun i hi => ?_⟩
      · rw [hu]
        refine firstCells_some hnl fun j hj => ?_
        rw [cell?_heap hw',cell_of_row w b (off + j) cur k.ty (0,0) hb]
        rw [List.getElem?_take,if_pos hj,List.getElem?_drop]
        simp
      · intro u hu'
        obtain ⟨j,hj,rfl⟩ := List.mem_iff_getElem.1 hu'
        have hj' : j < ys.length := by rw [hl]; omega
        obtain ⟨h',e⟩ := hget j hj'
        obtain ⟨u,hu2,hvr⟩ := h (off + j) h'
        have e2 : ((cur.toList.drop off).take (m * sz))[j] = u := by
          have h3 : off + j < cur.size := by omega
          rw [Array.getElem?_eq_getElem h3] at hu2
          simp
          exact Option.some.inj hu2
        rw [e2]
        rw [← e] at hvr
        exact (hvr.one (h1 _ (List.getElem_mem hj'))).1
      · obtain ⟨h',e⟩ := hget i hi
        obtain ⟨u,hu2,hvr⟩ := h (off + i) h'
        refine ⟨u,?_,?_⟩
        · rw [List.getElem?_take,if_pos (by omega),List.getElem?_drop]
          simpa using hu2
        · rw [← e] at hvr
          rcases hst with hl' | hs'
          · simpa [hl'] using hvr
          · have := hs' _ (List.getElem_mem hi)
            cases hlst : k.lst with
            | true => simpa [hlst] using hvr
            | false => simp only [hlst,cond_false] at hvr; exact hvr.still this
theorem run_append_any {P : Program} {w : World} {T U ty E : TypeId} {i : TypeInfo} {z : Value} (hT : P.underlying T = some (.slice E)) (hi : P.info? E = some i) (hz : i.zero = some z)
    (hU : ∃ D,P.underlying U = some D ∧ ∀ k,D ≠ .int k) (base : Option Addr) (n c : Nat) (x : Value) (m : Nat) (news olds : List Value)
    (hlen : (Builtin.lenOf x).run P w = .ok m w) (hfc : ∀ w',w'.heap = w.heap → (Builtin.firstCells i.size m x).run P w' = .ok news.toArray w')
    (hof : ∀ w',w'.heap = w.heap → (Builtin.firstCells i.size n (.slice base n c)).run P w' = .ok olds.toArray w')
    (h63 : n + m ≤ maxLen) (hbytes : (n + m) * i.bytes ≤ 140737488355328) :
    (n + m ≤ c → (Builtin.append_ #[T,U] ty #[.slice base n c,x]).run P w = match base with
      | none => .ok (.slice none (n + m) c) w
      | some a => ((storeCells (a.add (n * i.size)) news).run P w).andThen fun _ w' => .ok (.slice (some a) (n + m) c) w') ∧
    (c < n + m → ∃ c',n + m ≤ c' ∧ c' ≤ maxLen ∧ (Builtin.append_ #[T,U] ty #[.slice base n c,x]).run P w =
      .ok (.slice (some ⟨w.heap.size,0,none⟩) (n + m) c') (w.drew.alloc (.cells (olds.toArray ++ news.toArray ++ Builtin.zeroCells z.cells (c' - (n + m))) E))) := by
  obtain ⟨D,hU,hD⟩ := hU
  have h63' : ¬ (9223372036854775807 < ((n : Int) + (m : Int))) := by simp only [maxLen] at h63; omega
  have f1 := hfc w rfl
  have f2 := hfc w.drew rfl
  have f3 := hof w.drew rfl
  constructor
  · intro hroom
    cases base with
    | none => simp [Builtin.append_,run_underlying hT,run_underlying hU,sizeOf,typeInfo,hi,hlen,hroom,f1]
    | some a => simp [Builtin.append_,run_underlying hT,run_underlying hU,sizeOf,typeInfo,hi,hlen,hroom,f1]
  · intro hg
    have hn : ¬ (n + m ≤ c) := by omega
    have h48' : ¬ (281474976710656 < Builtin.nextslicecap (n + m) c * i.bytes) := by
      have := growslice_fits (need := n + m) (old := c) hg hbytes; omega
    refine ⟨grownCap w (n + m) c E,grownCap_ge _ _ _ _,grownCap_le_maxLen _ _ _ _ h63,?_⟩
    simp [Builtin.append_,run_underlying hT,run_underlying hU,sizeOf,typeInfo,zeroValue,hi,hz,hlen,hn,h63',h48',Question.forced,f2,f3,newRow,grownCap]
    congr 2
    apply Array.ext'
    simp [List.append_assoc]
end
end Go.AB
namespace Go.AB
open Go
theorem Rel.weak {C : Ctx} {s s' : St} {ι : Tags} {a : Act} {w : World} (r : Rel C s ι a w) (hhas : ∀ t,has t s'.heap ↔ has t s.heap)
    (henv : ∀ d v,look d s'.env = some v → v = .any ∨ look d s.env = some v)
    (hheap : ∀ t k',look t s'.heap = some k' → ∃ k,look t s.heap = some k ∧ k'.ty = k.ty ∧ k'.lst = k.lst ∧ (k'.cells = k.cells ∨ (k.lst = false ∧ k'.cells.length = k.cells.length ∧ ∀ i (h : i < k'.cells.length),k'.cells[i] = .any ∨ k.cells[i]? = some k'.cells[i]))) :
    Rel C s' ι a w := by
  have hZ : zone C s'.heap ι w = zone C s.heap ι w := by
    funext β b
    simp only [zone,hhas]
  refine ⟨r.size,r.dfr,?_,⟨?_,?_,?_,r.core.tr⟩,r.stab⟩
  · intro d v hl
    rcases henv d v hl with rfl | h
    · exact .any _ _ _
    · rw [hZ]; exact r.env d v h
  · intro t k' hl
    obtain ⟨k,hk,h1,h2,h3⟩ := hheap t k' hl
    have h0 := r.core.blk t k hk
    unfold BlkR at h0 ⊢
    rw [hZ]
    cases hx : ι t with
    | none =>
      simp only [hx] at h0 ⊢
      refine ⟨?_,by rw [h2]; exact h0.2⟩
      rcases h3 with h3 | ⟨h3,_⟩
      · rw [h3]; exact h0.1
      · rw [h0.2] at h3; cases h3
    | some b =>
      simp only [hx] at h0 ⊢
      obtain ⟨cur,g1,g2,g3⟩ := h0
      refine ⟨cur,by rw [h1]; exact g1,?_,?_⟩
      · rcases h3 with h3 | ⟨_,h3,_⟩ <;> rw [h3] <;> exact g2
      · intro i hi
        rw [h2]
        rcases h3 with h3 | ⟨q0,q1,q2⟩
        · have hi' : i < k.cells.length := by rw [← h3]; exact hi
          obtain ⟨u,hu,hv⟩ := g3 i hi'
          refine ⟨u,hu,?_⟩
          have : k'.cells[i] = k.cells[i] := by simp [h3]
          rw [this]; exact hv
        · have hi' : i < k.cells.length := by rw [← q1]; exact hi
          obtain ⟨u,hu,hv⟩ := g3 i hi'
          refine ⟨u,hu,?_⟩
          rcases q2 i hi with h | h
          · rw [h]; exact .any _ _ _
          · rw [List.getElem?_eq_getElem hi'] at h
            rw [← Option.some.inj h]; exact hv
  · intro t t' b h1 h2
    exact r.core.inj t t' b ((hhas t).1 h1) ((hhas t').1 h2)
  · intro t b h1
    exact r.core.own t b ((hhas t).1 h1)
theorem Rel.purge {C : Ctx} {s : St} {ι : Tags} {a : Act} {w : World} (r : Rel C s ι a w) {t : Nat} {k : Blk} (hk : look t s.heap = some k) {E : List (Nat × AV)}
    (hE : ∀ d v,look d E = some v → v = .any ∨ look d s.env = some v) : Rel C ⟨E,(t,k) :: purgeH t s.heap⟩ ι a w := by
  refine r.weak ?_ hE ?_
  · intro t'
    by_cases e : t' = t
    · subst e; exact ⟨fun _ => ⟨k,hk⟩,fun _ => ⟨k,look_cons_self _ _ _⟩⟩
    · have : has t' ((t,k) :: purgeH t s.heap) ↔ has t' (purgeH t s.heap) := by unfold has; rw [look_cons_ne e]
      rw [this,has_purgeH]; exact ⟨fun h => h.2,fun h => ⟨e,h⟩⟩
  · intro t' k' hl
    by_cases e : t' = t
    · subst e; rw [look_cons_self] at hl; cases hl; exact ⟨k,hk,rfl,rfl,.inl rfl⟩
    · rw [look_cons_ne e,look_purgeH_ne e] at hl
      cases hq : look t' s.heap with
      | none => rw [hq] at hl; cases hl
      | some q =>
        rw [hq] at hl
        simp only [Option.map_some,Option.some.injEq] at hl
        subst hl
        refine ⟨q,rfl,?_,?_,?_⟩
        · unfold purgeB; cases q.lst <;> rfl
        · unfold purgeB; cases h : q.lst <;> simp [h]
        · obtain ⟨qt,ql,qc⟩ := q
          cases ql with
          | true => exact .inl rfl
          | false =>
            refine .inr ⟨rfl,by simp [purgeB],fun i hi => ?_⟩
            have hi' : i < qc.length := by simpa [purgeB] using hi
            have e1 : (purgeB t ⟨qt,false,qc⟩).cells[i]'hi = purgeA t (qc[i]'hi') := by simp [purgeB]
            rw [e1]
            unfold purgeA
            cases AV.free t qc[i] with
            | true => exact .inr (by simp [hi'])
            | false => exact .inl rfl
theorem purgeE_weak {s : St} {t : Nat} : ∀ d v,look d (purgeE t s.env) = some v → v = .any ∨ look d s.env = some v := by
  intro d v h
  rw [look_purgeE] at h
  cases hq : look d s.env with
  | none => rw [hq] at h; cases h
  | some q =>
    rw [hq] at h
    simp only [Option.map_some,Option.some.injEq] at h
    unfold purgeA at h
    cases hf : AV.free t q with
    | true => rw [hf] at h; right; simpa using h
    | false => rw [hf] at h; left; simpa using h.symm
def elT (P : Program) (E : TypeId) (sz by_ : Nat) : Prop := ∃ i z,P.info? E = some i ∧ i.zero = some z ∧ i.size = sz ∧ i.bytes = by_ ∧ z.cells.size = sz
theorem elT.mk {P : Program} {E : TypeId} {sz by_ : Nat} (h : (P.info? E).map (fun i => (i.zero.map (·.cells.size),i.size,i.bytes)) = some (some sz,sz,by_)) : elT P E sz by_ := by
  cases hi : P.info? E with
  | none => rw [hi] at h; cases h
  | some i =>
    rw [hi] at h
    simp only [Option.map_some,Option.some.injEq,Prod.mk.injEq] at h
    cases hz : i.zero with
    | none => rw [hz] at h; cases h.1
    | some v => rw [hz] at h; exact ⟨i,v,hi,hz,h.2.1,h.2.2,by simpa using h.1⟩
section
variable {C : Ctx} {d : Nat} {ty : TypeId} {p : String} {e : Array Edge} {g : Option (Nat × Bool)} {s : St}
theorem row_of {w : World} {Z : Zone} {ι : Tags} {xs ys : List AV} {us vs : List Value} (hl : xs.length = us.length)
    (hx : ∀ i (hi : i < xs.length),∃ u,us[i]? = some u ∧ VR w Z ι (xs[i]'hi) u) (hy : ∀ i (hi : i < ys.length),∃ u,vs[i]? = some u ∧ VR w Z ι (ys[i]'hi) u) :
    ∀ i (hi : i < (xs ++ ys).length),∃ u,(us ++ vs)[i]? = some u ∧ VR w Z ι ((xs ++ ys)[i]'hi) u := by
  intro i hi
  by_cases h : i < xs.length
  · obtain ⟨u,hu,hv⟩ := hx i h
    refine ⟨u,by rw [List.getElem?_append_left (by omega)]; exact hu,?_⟩
    rw [List.getElem_append_left h]; exact hv
  · have h' : i - xs.length < ys.length := by rw [List.length_append] at hi; omega
    obtain ⟨u,hu,hv⟩ := hy (i - xs.length) h'
    refine ⟨u,by rw [List.getElem?_append_right (by omega),← hl]; exact hu,?_⟩
    rw [List.getElem_append_right (by omega)]; exact hv
theorem Rel.newL {ι : Tags} {a : Act} {w w' : World} (r : Rel C s ι a w) {t : Nat} {E : TypeId} {cur : Array Value} {cells : List AV} {v : AV} {u : Value} (hd : d < C.N) (hK : t ∉ C.K)
    (hheap : w'.heap = w.heap.push (.cells cur E (0,0))) (hos : w'.os = w.os) (htape : w'.tape = w.tape) (hout : w'.output = w.output) (hlen : cells.length ≤ cur.size)
    (hc : ∀ i (hi : i < cells.length),∃ u,cur[i]? = some u ∧ VR w (fun _ => zone C s.heap ι w false) (fun _ => none) (cells[i]'hi) u)
    (hv : bsz w' w.heap.size = some cur.size → VR w' (fun _ _ => False) (setT ι t w.heap.size) v u) : Rel C (s.newP d t ⟨E,true,cells⟩ v) (setT ι t w.heap.size) (a.put (some d) u) w' := by
  have hold : ∀ b,b < w.heap.size → w'.heap[b]? = w.heap[b]? := fun b hb => by rw [hheap,Array.getElem?_push,if_neg (by omega)]
  have hnew : w'.heap[w.heap.size]? = some (.cells cur E (0,0)) := by rw [hheap]; simp
  have hsz : ∀ b q,bsz w b = some q → bsz w' b = some q := by
    intro b q hb
    have hb1 : b < w.heap.size := by
      rcases Nat.lt_or_ge b w.heap.size with h | h
      · exact h
      · simp [bsz,Array.getElem?_eq_none h] at hb
    simp only [bsz,hold b hb1]; exact hb
  refine r.new hd hK hos htape hout (by rw [hheap]; simp) hold (Nat.le_refl _) (fun Z' hZ' => ?_) (fun Z' hZ' => ?_)
  · simp only [BlkR,setT,if_true]
    refine ⟨cur,hnew,hlen,fun i hi => ?_⟩
    obtain ⟨u,hu,hvr⟩ := hc i hi
    refine ⟨u,hu,?_⟩
    simp only [cond_true]
    refine hvr.mono hsz _ _ (fun _ b hb => hZ' false b hb) (fun _ b o y hb hy => ?_) (fun _ _ _ h => h)
    rw [World.cell?_of_block (a := ⟨b,o,none⟩) (hold b hb.1)]; exact hy
  · exact (hv (by simp [bsz,hnew])).mono (fun _ _ h => h) _ _ (fun _ _ h => h.elim) (fun _ _ _ _ h => h.elim) (fun _ _ _ h => h)
theorem AStep.append {x y : Operand} {T U E : TypeId} {t sz by_ n m : Nat} {cells ys : List AV} (hd : d < C.N) (hK : t ∉ C.K) (hx : Ev C s x (.own t sz 0 n)) (hy : Src C s y sz m ys)
    (hT : C.P.underlying T = some (.slice E)) (hU : ∃ D,C.P.underlying U = some D ∧ ∀ k,D ≠ .int k) (hE : elT C.P E sz by_) (hk : look t s.heap = some ⟨E,true,cells⟩)
    (hl : cells.length = n * sz) (h63 : n + m ≤ maxLen) (hbytes : (n + m) * by_ ≤ 140737488355328) :
    AStep C ⟨some d,.call { callee := .builtin .append,args := #[x,y],argTypes := #[T,U] },ty,p,e,g⟩ s (s.newP d t ⟨E,true,cells ++ ys⟩ (.own t sz 0 (n + m))) :=
  .run (fun _ h => by cases h) fun ι a w r => by
    obtain ⟨i,z,hi,hz,hsz,hby,hzs⟩ := hE
    subst hsz hby
    obtain ⟨news,n1,n2,n3,n4,n5,n6⟩ := hy ι a w r
    have hexec : ∀ base c,a.eval x = .slice base n c → (execOp a.eval ⟨some d,.call { callee := .builtin .append,args := #[x,y],argTypes := #[T,U] },ty,p,e,g⟩).run C.P w =
        ((Builtin.append_ #[T,U] ty #[.slice base n c,a.eval y]).run C.P w).andThen fun v w' => .ok (.value v) w' := by
      intro base c hu
      simp [execOp,resolve,invoke,builtin,hu]
    have hany := fun base c olds => run_append_any (ty := ty) hT hi hz hU base n c (a.eval y) m news olds n1 n2
    -- a new block: what was there,then what comes
    have grow : ∀ (base : Option Addr) (c : Nat) (olds : List Value),a.eval x = .slice base n c → c < n + m →
        (∀ w',w'.heap = w.heap → (Builtin.firstCells i.size n (.slice base n c)).run C.P w' = .ok olds.toArray w') → olds.length = n * i.size →
        (∀ j (hj : j < cells.length),∃ u,olds[j]? = some u ∧ VR w (fun _ => zone C s.heap ι w false) (fun _ => none) (cells[j]'hj) u) →
        ∃ u w' ι',(execOp a.eval ⟨some d,.call { callee := .builtin .append,args := #[x,y],argTypes := #[T,U] },ty,p,e,g⟩).run C.P w = .ok (.value u) w' ∧
          Rel C (s.newP d t ⟨E,true,cells ++ ys⟩ (.own t i.size 0 (n + m))) ι' (a.put (some d) u) w' := by
      intro base c olds hu hg hof hol hvr
      obtain ⟨c',hc1,hc2,hrun⟩ := (hany base c olds hof h63 hbytes).2 hg
      have hcs : (olds.toArray ++ news.toArray ++ Builtin.zeroCells z.cells (c' - (n + m))).size = c' * i.size := by
        have e1 : n * i.size + m * i.size + (c' - (n + m)) * i.size = c' * i.size := by rw [← Nat.add_mul,← Nat.add_mul]; congr 1; omega
        simp [size_zeroCells,hzs,hol,n3,e1]
      refine ⟨_,_,setT ι t w.heap.size,by rw [hexec base c hu,hrun]; rfl,?_⟩
      refine r.newL hd hK rfl rfl rfl rfl ?_ ?_ ?_
      · rw [hcs]
        have : (n + m) * i.size ≤ c' * i.size := Nat.mul_le_mul_right _ hc1
        rw [Nat.add_mul] at this
        simp [hl,n4]; omega
      · intro j hj
        obtain ⟨u,hu1,hu2⟩ := row_of (us := olds) (vs := news) (by rw [hl,hol]) hvr n6 j hj
        refine ⟨u,?_,hu2⟩
        rw [← Array.getElem?_toList]
        simp only [Array.toList_append]
        rw [List.getElem?_append_left (by rw [List.length_append] at hj ⊢; simp [hol,n3]; omega)]
        exact hu1
      · intro hb
        exact .own _ _ _ _ _ _ w.heap.size c' _ (by simp [setT]) hc1 hc2 hb (by rw [hcs]; omega)
    rcases own_inv (hx ι a w r) with ⟨rfl,hu⟩ | ⟨b,cap,q,hu,ht,hn,hc,hs,ho⟩
    · have hcl : cells = [] := List.eq_nil_of_length_eq_zero (by simpa using hl)
      subst hcl
      by_cases hm : m = 0
      · subst hm
        have hyl : ys = [] := List.eq_nil_of_length_eq_zero (by simpa using n4)
        have hnl : news = [] := List.eq_nil_of_length_eq_zero (by simpa using n3)
        subst hyl hnl
        have fin : ∀ u,VR w (zone C s.heap ι w) ι (.own t i.size 0 0) u → Rel C (s.newP d t ⟨E,true,[]⟩ (.own t i.size 0 0)) ι (a.put (some d) u) w := by
          intro u hvr
          have r1 := r.purge hk (purgeE_weak (s := s) (t := t))
          refine (r1.put hd ?_)
          refine hvr.mono (fun _ _ h => h) _ _ (fun β b hb => ⟨hb.1,fun t' ht' => hb.2.1 t' ?_,hb.2.2⟩) (fun _ _ _ _ _ h => h) (fun _ _ _ h => h)
          by_cases e : t' = t
          · subst e; exact ⟨_,hk⟩
          · obtain ⟨q,hq⟩ := ht'
            rw [look_cons_ne e] at hq
            exact (has_purgeH.1 ⟨q,hq⟩).2
        rcases hu with hu | ⟨b,o,hu⟩
        · have h := (hany none 0 [] (fun w' _ => by simp [Builtin.firstCells]) h63 hbytes).1 (by omega)
          exact ⟨_,w,ι,by rw [hexec none 0 hu,h]; rfl,fin _ (.ownnil _ _ _ _ _)⟩
        · have h := (hany (some ⟨b,o,none⟩) 0 [] (fun w' _ => firstCells_some (by simp) fun j hj => absurd hj (by simp)) h63 hbytes).1 (by omega)
          exact ⟨.slice (some ⟨b,o,none⟩) 0 0,w,ι,by rw [hexec _ 0 hu,h]; simp [storeCells],fin _ (.ownz _ _ _ _ _ _ _)⟩
      · rcases hu with hu | ⟨b,o,hu⟩
        · exact grow none 0 [] hu (by omega) (fun w' _ => by simp [Builtin.firstCells]) (by simp) (fun j hj => absurd hj (by simp))
        · exact grow _ 0 [] hu (by omega) (fun w' _ => firstCells_some (by simp) fun j hj => absurd hj (by simp)) (by simp) (fun j hj => absurd hj (by simp))
    · obtain ⟨cur,hb,hlc,hcv⟩ := blk_inv r.core hk ht
      simp only [cond_true] at hcv hlc hb
      have hq : q = cur.size := by simp only [bsz,hb] at hs; exact (Option.some.inj hs).symm
      subst hq
      by_cases hroom : n + m ≤ cap
      · have hfit : 0 + n * i.size + news.length ≤ cur.size := by
          have : (n + m) * i.size ≤ cap * i.size := Nat.mul_le_mul_right _ hroom
          rw [Nat.add_mul] at this
          omega
        have hstc := run_storeCells_at C.P b (n * i.size) E news 0 cur w hb (by omega) n5
        have h := (hany (some ⟨b,0,none⟩) cap ((cur.toList.take (n * i.size))) (fun w' hw' => firstCells_some (by simp; omega) fun j hj => by
          rw [cell?_heap hw',cell_of_row w b (0 + j) cur E (0,0) hb,List.getElem?_take,if_pos hj]; simp) h63 hbytes).1 hroom
        refine ⟨.slice (some ⟨b,0,none⟩) (n + m) cap,w.setRow b (cur.toList.take (n * i.size + 0) ++ news ++ cur.toList.drop (n * i.size + 0 + news.length)).toArray,ι,?_,?_⟩
        · rw [hexec _ cap hu,h]
          simp only [Addr.add_plain,Nat.zero_add]
          rw [hstc]
          rfl
        · have hcs' : (cur.toList.take (n * i.size + 0) ++ news ++ cur.toList.drop (n * i.size + 0 + news.length)).toArray.size = cur.size := by
            simp; omega
          have hbig : (w.setRow b (cur.toList.take (n * i.size + 0) ++ news ++ cur.toList.drop (n * i.size + 0 + news.length)).toArray).heap[b]? = some (.cells (cur.toList.take (n * i.size + 0) ++ news ++ cur.toList.drop (n * i.size + 0 + news.length)).toArray E (0,0)) :=
            setRow_heap w b cur _ E _ hb
          have hoth : ∀ j,j ≠ b → (w.setRow b (cur.toList.take (n * i.size + 0) ++ news ++ cur.toList.drop (n * i.size + 0 + news.length)).toArray).heap[j]? = w.heap[j]? := fun j hj => setRow_other w b j _ hj
          generalize hW : w.setRow b (cur.toList.take (n * i.size + 0) ++ news ++ cur.toList.drop (n * i.size + 0 + news.length)).toArray = W at hbig hoth ⊢
          have hsz : ∀ x q,bsz w x = some q → bsz W x = some q := by
            intro x q hx
            by_cases e : x = b
            · subst e
              simp only [bsz,hb] at hx
              simp only [bsz,hbig,hcs']
              exact hx
            · simp only [bsz,hoth x e]; exact hx
          have r1 := r.write (w' := W) hk ht (by rw [← hW]; rfl) (by rw [← hW]; rfl) (by rw [← hW]; rfl) (by rw [← hW]; simp) hoth (k' := ⟨E,true,cells ++ ys⟩) hb hbig hcs' (by rw [hcs']; simp [hl,n4]; omega) ?_
          · have hk' : look t (updH t ⟨E,true,cells ++ ys⟩ s.heap) = some ⟨E,true,cells ++ ys⟩ := look_updH_self _ _ ⟨_,hk⟩
            have r2 := r1.purge hk' (E := purgeE t s.env) purgeE_weak
            have r3 := r2.put hd (v := .own t i.size 0 (n + m)) (u := .slice (some ⟨b,0,none⟩) (n + m) cap) (.own _ _ _ _ _ _ b cap cur.size ht hroom hc (hsz _ _ hs) ho)
            refine r3.weak (fun t' => ?_) (fun d' v' h => .inr h) (fun t' k' h => ?_)
            · simp only [St.newP,St.put]
              by_cases e : t' = t
              · subst e; exact ⟨fun _ => ⟨_,look_cons_self _ _ _⟩,fun _ => ⟨_,look_cons_self _ _ _⟩⟩
              · unfold has; rw [look_cons_ne e,look_cons_ne e,look_purgeH_ne e,look_purgeH_ne e,look_updH_ne e]
            · simp only [St.newP,St.put] at h ⊢
              refine ⟨k',?_,rfl,rfl,.inl rfl⟩
              by_cases e : t' = t
              · subst e; rw [look_cons_self] at h ⊢; exact h
              · rw [look_cons_ne e,look_purgeH_ne e] at h ⊢; rw [look_updH_ne e]; exact h
          · simp only [cond_true]
            intro j hj
            obtain ⟨u,hu1,hu2⟩ := row_of (us := cur.toList.take (n * i.size)) (vs := news) (by simp [hl]; omega) (fun j hj => by
              obtain ⟨u,hu1,hu2⟩ := hcv j hj
              exact ⟨u,by rw [List.getElem?_take,if_pos (by omega)]; simpa using hu1,hu2⟩) n6 j hj
            refine ⟨u,?_,?_⟩
            · rw [← Array.getElem?_toList]
              simp only [Nat.add_zero]
              rw [List.getElem?_append_left (by simp at hj ⊢; omega)]
              exact hu1
            · refine hu2.mono hsz _ _ (fun _ _ h => h) (fun _ x o y hx hy => ?_) (fun _ _ _ h => h)
              have hne : x ≠ b := fun e => hx.2.1 t ⟨_,hk⟩ (by rw [ht,e])
              rw [World.cell?_of_block (a := ⟨x,o,none⟩) (hoth x hne)]; exact hy
      · refine grow (some ⟨b,0,none⟩) cap (cur.toList.take (n * i.size)) hu (by omega) (fun w' hw' => firstCells_some (by simp; omega) fun j hj => by
          rw [cell?_heap hw',cell_of_row w b (0 + j) cur E (0,0) hb,List.getElem?_take,if_pos hj]; simp) (by simp; omega) (fun j hj => ?_)
        obtain ⟨u,hu1,hu2⟩ := hcv j hj
        exact ⟨u,by rw [List.getElem?_take,if_pos (by omega)]; simpa using hu1,hu2⟩
end
end Go.AB
namespace Go.AB
open Go
section
variable {C : Ctx} {d : Nat} {ty : TypeId} {p : String} {e : Array Edge} {g : Option (Nat × Bool)} {s : St}
theorem AStep.make {α : Type} {enc : α → List AV} {y0 : α} {x y : Operand} {T E : TypeId} {t sz by_ : Nat} {z : List Value} {k k' : IntKind} {l c : Int} (hd : d < C.N) (hK : t ∉ C.K)
    (hx : Ev C s x (.sc (.int k l))) (hy : Ev C s y (.sc (.int k' c))) (hT : C.P.underlying T = some (.slice E)) (hz : zeroT C.P E z) (hE : elT C.P E sz by_) (h0 : enc y0 = z.map .sc)
    (henc : ∀ y,(enc y).length = sz) (h1 : 0 ≤ l) (h2 : l ≤ c) (h3 : (by_ : Int) * c ≤ 281474976710656) (h4 : c ≤ 9223372036854775807) :
    AStep C ⟨some d,.makeSlice T x y,ty,p,e,g⟩ s (s.newP d t ⟨E,true,(List.replicate l.toNat y0).flatMap enc⟩ (.own t sz 0 l.toNat)) :=
  .run (fun _ h => by cases h) fun ι a w r => by
    obtain ⟨i,v,hi,hv,hvz,hsz⟩ := hz
    obtain ⟨i',v',hi',hv',hsz',hby,_⟩ := hE
    rw [hi] at hi'
    cases hi'
    rw [hv] at hv'
    cases hv'
    have hrun := run_make (P := C.P) w T E i v hT hi hv k k' l c h1 h2 (by rw [hby]; exact h3) h4
    refine ⟨_,_,setT ι t w.heap.size,by simp only [execOp,hx.sc r,hy.sc r,Sem.run_bind,hrun]; rfl,?_⟩
    have hle : l.toNat ≤ c.toNat := by omega
    have hcs : (madeCells v.cells (c.toNat * i.size)).size = c.toNat * i.size := size_madeCells _ _
    have hlen : ((List.replicate l.toNat y0).flatMap enc).length = l.toNat * sz := by rw [flatMap_length henc]; simp
    refine r.newL hd hK rfl rfl rfl rfl ?_ ?_ ?_
    · rw [hcs,hlen,hsz']; exact Nat.mul_le_mul_right _ hle
    · intro j hj
      rw [hlen] at hj
      have hpos : 0 < sz := by
        rcases Nat.eq_zero_or_pos sz with h | h
        · rw [h] at hj; omega
        · exact h
      have hq : j / sz < l.toNat := (Nat.div_lt_iff_lt_mul hpos).2 hj
      have hr : j % sz < sz := Nat.mod_lt _ hpos
      have hz1 : z.length = sz := by have := henc y0; rw [h0] at this; simpa using this
      have e1 := flatMap_at henc (List.replicate l.toNat y0) (j / sz) (y := y0) (by rw [List.getElem?_replicate,if_pos hq]) (j % sz) hr
      have e2 : j / sz * sz + j % sz = j := by rw [Nat.mul_comm]; exact Nat.div_add_mod j sz
      rw [e2,h0] at e1
      have hzl : j % sz < z.length := by omega
      have e3 : ((List.replicate l.toNat y0).flatMap enc)[j]'(by rw [hlen]; exact hj) = .sc z[j % sz] := by
        rw [List.getElem?_eq_getElem (by rw [hlen]; exact hj)] at e1
        simp [hzl] at e1
        exact e1
      refine ⟨z[j % sz],?_,by rw [e3]; exact .sc _ _ _⟩
      have hlt : j < c.toNat * i.size := by rw [hsz']; exact Nat.lt_of_lt_of_le hj (Nat.mul_le_mul_right _ hle)
      have hvs : v.cells.size = sz := by rw [← Array.length_toList,hvz,hz1]
      simp only [madeCells,Array.getElem?_map]
      rw [Array.getElem?_eq_getElem (by simpa using hlt)]
      simp only [Array.getElem_range,Option.map_some,hvs]
      have : v.cells[j % sz]! = z[j % sz] := by
        have hb : j % sz < v.cells.size := by omega
        rw [getElem!_pos v.cells _ hb]
        have : v.cells[j % sz] = v.cells.toList[j % sz]'(by simpa using hb) := by simp
        rw [this]
        simp only [hvz]
      rw [this]
    · intro hb
      exact .own _ _ _ _ _ _ w.heap.size c.toNat _ (by simp [setT]) hle (by simp only [maxLen]; omega) hb (by rw [hcs,hsz']; omega)
def AV.cellsOf : AV → List AV
  | .agg cs => cs
  | v => [v]
def AV.wide (n : Nat) : AV → Prop
  | .agg cs => cs.length = n
  | v => v.one = true ∧ n = 1
theorem VR.wide {w : World} {Z : Zone} {ι : Tags} {v : AV} {u : Value} {n : Nat} (h : VR w Z ι v u) (hw : v.wide n) : u.cells.size = n ∧ v.cellsOf.length = n ∧
    ∀ i (hi : i < v.cellsOf.length),∃ y,u.cells[i]? = some y ∧ VR w Z ι (v.cellsOf[i]'hi) y := by
  have one : v.one = true → n = 1 → v.cellsOf = [v] → u.cells.size = n ∧ v.cellsOf.length = n ∧ ∀ i (hi : i < v.cellsOf.length),∃ y,u.cells[i]? = some y ∧ VR w Z ι (v.cellsOf[i]'hi) y := by
    intro h1 h2 h3
    have h4 := (h.one h1).2
    subst h2
    refine ⟨by rw [h4]; rfl,by rw [h3]; rfl,fun i hi => ?_⟩
    have hi0 : i = 0 := by rw [h3] at hi; simp at hi; exact hi
    subst hi0
    refine ⟨u,by rw [h4]; rfl,?_⟩
    simp only [h3,List.getElem_cons_zero]; exact h
  cases h with
  | agg _ _ cells vs hl hv =>
    simp only [AV.wide] at hw
    refine ⟨by simp [Value.cells,hl,hw],hw,fun i hi => ?_⟩
    simp only [AV.cellsOf] at hi ⊢
    exact ⟨vs[i],by simp [Value.cells,hl ▸ hi],hv i hi⟩
  | _ => first | exact one hw.1 hw.2 rfl | (exact absurd hw.1 (by simp [AV.one]))
def splL {β : Type} (cells : List β) (off : Nat) (new : List β) : List β := cells.take off ++ new ++ cells.drop (off + new.length)
theorem fold_splice (us : List Value) : ∀ (cur : Array Value) (off k : Nat),off + k + us.length ≤ cur.size →
    (us.zipIdx k).foldl (fun cs (x : Value × Nat) => cs.setIfInBounds (off + x.2) x.1) cur = (splL cur.toList (off + k) us).toArray := by
  induction us with
  | nil => intro cur off k h; simp [splL]
  | cons u us ih =>
    intro cur off k h
    simp only [List.length_cons] at h
    rw [List.zipIdx_cons,List.foldl_cons,ih _ _ _ (by simp; omega)]
    congr 1
    simp only [splL,Array.toList_setIfInBounds,List.length_cons]
    rw [show off + (k + 1) = off + k + 1 from by omega,List.drop_set_of_lt (by omega),List.take_set,List.take_add_one,List.set_append_right _ _ (by simp; omega)]
    have hlt : off + k < cur.toList.length := by simp; omega
    rw [List.getElem?_eq_getElem hlt]
    simp
    rw [show min (off + k) cur.size = off + k from by omega]
    simp
    congr 1
    omega
def fillA (place : Nat → Option (Nat × Nat)) : List AV → List (Nat × AV) → Option (List AV)
  | cells,[] => some cells
  | cells,(i,v) :: rest => match place i with
    | none => none
    | some (off,size) => if v.cellsOf.length = size ∧ off + size ≤ cells.length then fillA place (splL cells off v.cellsOf) rest else none
inductive EvL (C : Ctx) (s : St) : List (Nat × Operand) → List (Nat × AV) → Prop
  | nil : EvL C s [] []
  | cons {i : Nat} {x : Operand} {v : AV} {xs : List (Nat × Operand)} {vs : List (Nat × AV)} (h : Ev C s x v) (hw : v.wide v.cellsOf.length) (t : EvL C s xs vs) : EvL C s ((i,x) :: xs) ((i,v) :: vs)
theorem splL_row {w : World} {Z : Zone} {ι : Tags} {xs ys : List AV} {us vs : List Value} {off : Nat} (hl : xs.length = us.length) (hl' : ys.length = vs.length) (ho : off + ys.length ≤ xs.length)
    (hx : ∀ i (hi : i < xs.length),∃ u,us[i]? = some u ∧ VR w Z ι (xs[i]'hi) u) (hy : ∀ i (hi : i < ys.length),∃ u,vs[i]? = some u ∧ VR w Z ι (ys[i]'hi) u) :
    (splL xs off ys).length = (splL us off vs).length ∧ ∀ i (hi : i < (splL xs off ys).length),∃ u,(splL us off vs)[i]? = some u ∧ VR w Z ι ((splL xs off ys)[i]'hi) u := by
  constructor
  · simp [splL,hl,hl']
  · unfold splL
    refine row_of (by simp [hl,hl']) (row_of (by simp [hl]) ?_ hy) ?_
    · intro i hi
      have hi' : i < xs.length := by simp at hi; omega
      obtain ⟨u,hu,hv⟩ := hx i hi'
      exact ⟨u,by rw [List.getElem?_take,if_pos (by simp at hi; omega)]; exact hu,by simpa using hv⟩
    · intro i hi
      have hi' : off + ys.length + i < xs.length := by simp at hi; omega
      obtain ⟨u,hu,hv⟩ := hx _ hi'
      exact ⟨u,by rw [List.getElem?_drop,← hl']; exact hu,by simpa using hv⟩
theorem fill_run {C : Ctx} {s : St} {ι : Tags} {a : Act} {w : World} (r : Rel C s ι a w) {place : Nat → Option (Nat × Nat)} :
    ∀ {xs : List (Nat × Operand)} {vs : List (Nat × AV)},EvL C s xs vs → ∀ (cells out : List AV) (us : List Value),cells.length = us.length →
      (∀ i (hi : i < cells.length),∃ u,us[i]? = some u ∧ VR w (zone C s.heap ι w) ι (cells[i]'hi) u) → fillA place cells vs = some out →
      ∃ us' : List Value,Instr.fill place us.toArray (xs.map fun x => (x.1,a.eval x.2)) = some us'.toArray ∧ out.length = us'.length ∧
        ∀ i (hi : i < out.length),∃ u,us'[i]? = some u ∧ VR w (zone C s.heap ι w) ι (out[i]'hi) u := by
  intro xs vs hev
  induction hev with
  | nil =>
    intro cells out us hl hv hf
    simp only [fillA,Option.some.injEq] at hf
    subst hf
    exact ⟨us,by simp [Instr.fill],hl,hv⟩
  | cons h hw t ih =>
    rename_i i x v xs vs
    intro cells out us hl hv hf
    simp only [fillA] at hf
    cases hp : place i with
    | none => rw [hp] at hf; cases hf
    | some q =>
      obtain ⟨off,size⟩ := q
      rw [hp] at hf
      simp only [] at hf
      split at hf
      · rename_i hc
        obtain ⟨hc1,hc2⟩ := hc
        obtain ⟨q1,q2,q3⟩ := (h ι a w r).wide hw
        have hcl : (a.eval x).cells.toList.length = v.cellsOf.length := by simpa using q1
        obtain ⟨s1,s2⟩ := splL_row (us := us) (vs := (a.eval x).cells.toList) (off := off) hl hcl.symm (by omega) hv (fun j hj => by
          obtain ⟨y,hy,hvr⟩ := q3 j hj
          exact ⟨y,by simpa using hy,hvr⟩)
        obtain ⟨us',f1,f2,f3⟩ := ih _ _ _ s1 s2 hf
        refine ⟨us',?_,f2,f3⟩
        rw [← f1]
        simp only [List.map_cons,Instr.fill,hp]
        rw [if_neg]
        · have hfs := fold_splice (a.eval x).cells.toList us.toArray off 0 (by simp; omega)
          simp only [Nat.add_zero] at hfs
          congr 1
          rw [← hfs,← Array.foldl_toList,Array.toList_zipIdx]
        · simp only [Bool.or_eq_true,decide_eq_true_eq,not_or]
          constructor
          · simp [q1,hc1]
          · simp; omega
      · cases hf
theorem AStep.build {T : TypeId} {parts : Array (Nat × Operand)} {vs : List (Nat × AV)} {z : List Value} {fs : Array Field} {offs : List (Nat × Nat)} {out : List AV} (hd : d < C.N)
    (hev : EvL C s parts.toList vs) (hT : C.P.underlying T = some (.struct fs)) (hz : zeroT C.P T z) (hoffs : ∀ w,(fs.mapM fun f => do pure (f.offset,← sizeOf f.type) : Sem (Array (Nat × Nat))).run C.P w = .ok offs.toArray w)
    (hout : fillA (fun i => offs[i]?) (z.map .sc) vs = some out) : AStep C ⟨some d,.build T parts,ty,p,e,g⟩ s (s.put d (.agg out)) :=
  .val hd (fun _ h => by cases h) fun ι a w r => by
    obtain ⟨i,v,hi,hv,hvz,hsz⟩ := hz
    obtain ⟨us',f1,f2,f3⟩ := fill_run r hev (z.map .sc) out z (by simp) (fun j hj => by
      have hj' : j < z.length := by simpa using hj
      exact ⟨z[j],by simp [hj'],by simpa using VR.sc _ _ _⟩) hout
    refine ⟨.agg us'.toArray,?_,.agg _ _ _ _ f2.symm fun j hj => ?_⟩
    · have hvc : v.cells = z.toArray := by rw [← hvz]
      have hpt : (parts.map fun x => (x.1,a.eval x.2)).toList = parts.toList.map fun x => (x.1,a.eval x.2) := by simp
      simp only [execOp,Instr.build,Sem.run_bind,zeroValue,typeInfo,run_program,hi,hv,Sem.run_pure,Result.andThen_ok,run_underlying hT]
      rw [hoffs w]
      simp only [Result.andThen_ok,hpt,hvc]
      have : (fun x : Nat => offs.toArray[x]?) = fun i : Nat => offs[i]? := by funext x; simp
      rw [this,f1]
      rfl
    · obtain ⟨u,hu,hvr⟩ := f3 j hj
      have : us'[j]'(by omega) = u := by
        rw [List.getElem?_eq_getElem (by omega)] at hu; exact Option.some.inj hu
      rw [this]; exact hvr
theorem AStep.buildSlice {T E : TypeId} {t sz by_ n : Nat} {parts : Array (Nat × Operand)} {vs : List (Nat × AV)} {z : List Value} {out : List AV} (hd : d < C.N) (hK : t ∉ C.K)
    (hev : EvL C s parts.toList vs) (hT : C.P.underlying T = some (.slice E)) (hz : zeroT C.P E z) (hE : elT C.P E sz by_) (hpos : 0 < sz) (hn : n * sz ≤ 16777216)
    (hout : fillA (fun i => some (i * sz,sz)) ((List.range (n * sz)).map fun i => .sc (z.getD (i % sz) undef)) vs = some out) (hst : ∀ c ∈ out,c.still = true) :
    AStep C ⟨some d,.buildSlice T n parts,ty,p,e,g⟩ s (s.newP d t ⟨E,true,out⟩ (.own t sz 0 n)) :=
  .run (fun _ h => by cases h) fun ι a w r => by
    obtain ⟨i,v,hi,hv,hvz,hsz⟩ := hz
    obtain ⟨i',v',hi',hv',hsz',hby,hzs⟩ := hE
    rw [hi] at hi'
    cases hi'
    rw [hv] at hv'
    cases hv'
    obtain ⟨us',f1,f2,f3⟩ := fill_run r hev _ out ((List.range (n * sz)).map fun i => z.getD (i % sz) undef) (by simp) (fun j hj => by
      have hj' : j < n * sz := by simpa using hj
      exact ⟨z.getD (j % sz) undef,by simp [hj'],by simpa using VR.sc _ _ _⟩) hout
    have hlen : ∀ (xs : List (Nat × AV)) (cs out : List AV),fillA (fun i => some (i * sz,sz)) cs xs = some out → out.length = cs.length := by
      intro xs
      induction xs with
      | nil => intro cs out h; simp only [fillA,Option.some.injEq] at h; rw [h]
      | cons x xs ih =>
        intro cs out h
        obtain ⟨i,v⟩ := x
        simp only [fillA] at h
        split at h
        · rename_i hc
          rw [ih _ _ h]
          simp [splL]
          omega
        · cases h
    have hol : out.length = n * sz := by rw [hlen _ _ _ hout]; simp
    refine ⟨.slice (some ⟨w.heap.size,0,none⟩) n n,w.alloc (.cells us'.toArray E),setT ι t w.heap.size,?_,?_⟩
    · have hpt : (parts.map fun x => (x.1,a.eval x.2)).toList = parts.toList.map fun x => (x.1,a.eval x.2) := by simp
      have hcells : ((Array.range (n * sz)).map fun x => v.cells[x % sz]!) = ((List.range (n * sz)).map fun i => z.getD (i % sz) undef).toArray := by
        apply Array.ext'
        simp only [Array.toList_map,Array.toList_range]
        refine List.map_congr_left fun j hj => ?_
        have hj' : j < n * sz := by simpa using hj
        have hr : j % sz < sz := Nat.mod_lt _ hpos
        have hzl : z.length = sz := by rw [← hsz,hsz']
        rw [getElem!_pos v.cells _ (by rw [hzs]; exact hr)]
        have e1 : v.cells[j % sz]'(by rw [hzs]; exact hr) = v.cells.toList[j % sz]'(by simp [hzs]; exact hr) := by simp
        rw [e1]
        simp only [hvz]
        simp [List.getD_eq_getElem?_getD,List.getElem?_eq_getElem (show j % sz < z.length by omega)]
      have hnb : ¬ (n * sz > 2 ^ 24) := by omega
      simp only [execOp,Instr.buildSlice,Sem.run_bind,run_underlying hT,Result.andThen_ok,sizeOf,typeInfo,run_program,hi,Sem.run_pure,hsz']
      rw [if_neg (by omega)]
      by_cases h0 : n * sz = 0
      · rw [if_pos h0]
        simp only [Sem.run_pure,Sem.run_bind,Result.andThen_ok,hpt]
        have : ((Array.range (n * sz)).map fun x => (#[] : Array Value)[x % (#[] : Array Value).size]!) = ((List.range (n * sz)).map fun i => z.getD (i % sz) undef).toArray := by rw [h0]; simp
        rw [this,f1]
        simp [newRow]
      · rw [if_neg h0]
        simp only [zeroValue,typeInfo,Sem.run_bind,run_program,hi,hv,Sem.run_pure,Result.andThen_ok,hpt,hzs]
        rw [hcells,f1]
        simp [newRow]
    · refine r.newL hd hK rfl rfl rfl rfl (by simp [f2]) (fun j hj => ?_) (fun hb => ?_)
      · obtain ⟨u,hu,hvr⟩ := f3 j hj
        exact ⟨u,by simpa using hu,hvr.still (hst _ (List.getElem_mem hj))⟩
      · exact .own _ _ _ _ _ _ w.heap.size n _ (by simp [setT]) (Nat.le_refl _) (by
          simp only [maxLen]
          have := Nat.le_mul_of_pos_right n hpos; omega) hb (by simp [← f2,hol])
end
end Go.AB
namespace Go.AB
open Go
def ownedBy (H : List (Nat × Blk)) (ι : Tags) (b : Nat) : Prop := ∃ t,has t H ∧ ι t = some b
def callable (P : Program) (f : FuncId) : Prop := ∃ fn,P.funcs[f]? = some fn ∧ fn.body.isNone = false ∧ (fn.name == "runtime.NumGoroutine") = false
def VRs (w : World) (Z : Zone) (ι : Tags) (avs : List AV) (vs : List Value) : Prop := vs.length = avs.length ∧ ∀ i (hi : i < avs.length),∃ u,vs[i]? = some u ∧ VR w Z ι (avs[i]'hi) u
def Spec (P : Program) (f : FuncId) (K : List Nat) (avs : List AV) (H : List (Nat × Blk)) (r : AV) (H' : List (Nat × Blk)) : Prop :=
  callable P f ∧ ∀ (Zs Zb : Nat → Prop) (ι : Tags) (w : World) (vs : List Value) (N : Nat) (dfr : List Deferred) (ro : Option Nat),
    Core ⟨P,ro,N,dfr,w,Zs,Zb,ownedBy H ι,K,ι⟩ H ι w → VRs w (zone ⟨P,ro,N,dfr,w,Zs,Zb,ownedBy H ι,K,ι⟩ H ι w) ι avs vs →
    CallsIn (Fc none) 0 P f vs.toArray w fun e w' => ∃ v ι',e = .returned v ∧ Core ⟨P,ro,N,dfr,w,Zs,Zb,ownedBy H ι,K,ι⟩ H' ι' w' ∧
      VR w' (zone ⟨P,ro,N,dfr,w,Zs,Zb,ownedBy H ι,K,ι⟩ H' ι' w') ι' r v ∧ ∀ t,t ∈ K → ι' t = ι t
def Res (C : Ctx) (fn : Func) (s : St) (r : AV) (H' : List (Nat × Blk)) : Prop :=
  ∀ ι a w,Rel C s ι a w → ∃ v ι',(results fn a.tmps).run C.P w = .ok v w ∧ a.defers = [] ∧ Core C H' ι' w ∧ VR w (zone C H' ι' w) ι' r v ∧ ∀ t,t ∈ C.K → ι' t = C.ι0 t
def enum {α : Type} : Nat → List α → List (Nat × α)
  | _,[] => []
  | k,a :: l => (k,a) :: enum (k + 1) l
theorem look_enum {α : Type} : ∀ (l : List α) (k d : Nat),look d (enum k l) = if k ≤ d then l[d - k]? else none
  | [],k,d => by simp [enum,look]
  | a :: l,k,d => by
    simp only [enum,look]
    by_cases h : d = k
    · subst h; simp
    · rw [beq_ne h,cond_false,look_enum l (k + 1) d]
      by_cases h1 : k ≤ d
      · rw [if_pos h1,if_pos (by omega),show d - k = (d - (k + 1)) + 1 from by omega,List.getElem?_cons_succ]
      · rw [if_neg h1,if_neg (by omega)]
theorem Spec.of {P : Program} {f : FuncId} {fn : Func} {c : Code} {K : List Nat} {avs : List AV} {H : List (Nat × Blk)} {r : AV} {H' : List (Nat × Blk)} {N : Nat} (hf : P.funcs[f]? = some fn) (hnt : fn.ntmps = N) (hb : fn.body = some c)
    (hc : (fn.name == "runtime.NumGoroutine") = false) (hN : avs.length ≤ N)
    (h : ∀ w0 Zs Zb T0 ι0,AWP ⟨P,none,N,[],w0,Zs,Zb,T0,K,ι0⟩ c (fun e s' => (e = .ret ∨ e = .normal) ∧ Res ⟨P,none,N,[],w0,Zs,Zb,T0,K,ι0⟩ fn s' r H') ⟨enum 0 avs,H⟩) : Spec P f K avs H r H' := by
  subst hnt
  refine ⟨⟨fn,hf,by simp [hb],hc⟩,fun Zs Zb ι w vs N dfr ro hcore hvs => ?_⟩
  obtain ⟨hl,hv⟩ := hvs
  have hw := h w Zs Zb (ownedBy H ι) ι ι { tmps := vs.toArray ++ Array.replicate (fn.ntmps - vs.toArray.size) undef,defers := [] } w ?_
  · refine callsIn_of_wp hf hb trivial (wpIn_mono hw fun e a' w' ⟨s',ι',r',he,hres⟩ => ?_)
    obtain ⟨v,ι2,q1,q2,q3,q4,q5⟩ := hres ι' a' w' r'
    have : bodyPost P fn (fun e w' => ∃ v ι',e = Ending.returned v ∧ Core ⟨P,ro,N,dfr,w,Zs,Zb,ownedBy H ι,K,ι⟩ H' ι' w' ∧ VR w' (zone ⟨P,ro,N,dfr,w,Zs,Zb,ownedBy H ι,K,ι⟩ H' ι' w') ι' r v ∧ ∀ t,t ∈ K → ι' t = ι t) .normal a' w' :=
      ⟨q2,v,q1,v,ι2,rfl,⟨q3.blk,q3.inj,q3.own,q3.tr⟩,q4,q5⟩
    rcases he with rfl | rfl
    · exact this
    · exact this
  · refine ⟨by simp [hl]; omega,rfl,?_,⟨hcore.blk,hcore.inj,hcore.own,hcore.tr⟩,fun _ _ => rfl⟩
    intro d v hlk
    rw [look_enum] at hlk
    simp only [Nat.zero_le,if_true,Nat.sub_zero] at hlk
    have hd := (List.getElem?_eq_some_iff.1 hlk).1
    obtain ⟨u,hu,hvr⟩ := hv d hd
    have he : avs[d] = v := by rw [List.getElem?_eq_getElem hd] at hlk; exact Option.some.inj hlk
    rw [he] at hvr
    have : (vs.toArray ++ Array.replicate (fn.ntmps - vs.toArray.size) undef).getD d undef = u := by
      rw [Array.getD_eq_getD_getElem?,Array.getElem?_append_left (by simp; omega)]
      simp [hu]
    simp only [this]
    exact hvr
mutual
def AV.tags : AV → List Nat
  | .own t _ _ _ => [t]
  | .ownc t _ _ _ => [t]
  | .ptr t _ => [t]
  | .agg cs => AV.tagsL cs
  | .tup cs => AV.tagsL cs
  | .clo _ a b => AV.tagsL a ++ AV.tagsL b
  | .gd _ v => AV.tags v
  | _ => []
def AV.tagsL : List AV → List Nat
  | [] => []
  | a :: l => AV.tags a ++ AV.tagsL l
end
theorem AV.mem_tagsL {t : Nat} : ∀ {l : List AV},t ∈ AV.tagsL l ↔ ∃ a ∈ l,t ∈ AV.tags a
  | [] => by simp [AV.tagsL]
  | a :: l => by simp [AV.tagsL,AV.mem_tagsL (l := l)]
theorem AV.tags_of_free {t : Nat} {v : AV} : AV.free t v = false → t ∈ AV.tags v := by
  induction v using AV.rec (motive_2 := fun l => AV.freeL t l = false → t ∈ AV.tagsL l) with
  | sc => simp [AV.free]
  | rd => simp [AV.free]
  | rdx => simp [AV.free]
  | own => simp [AV.free,AV.tags]; exact fun h => h.symm
  | ownc => simp [AV.free,AV.tags]; exact fun h => h.symm
  | ptr => simp [AV.free,AV.tags]; exact fun h => h.symm
  | rptr => simp [AV.free]
  | agg cs ih => simpa [AV.free,AV.tags] using ih
  | tup cs ih => simpa [AV.free,AV.tags] using ih
  | clo f a b iha ihb =>
    simp only [AV.free,AV.tags,Bool.and_eq_false_iff,List.mem_append]
    rintro (h | h)
    · exact .inl (iha h)
    · exact .inr (ihb h)
  | gd c v ih => simpa [AV.free,AV.tags] using ih
  | any => simp [AV.free]
  | nil => rename_i h; simp [AV.freeL] at h
  | cons a l iha ihl =>
    rename_i h
    simp only [AV.freeL,Bool.and_eq_false_iff] at h
    simp only [AV.tagsL,List.mem_append]
    rcases h with h | h
    · exact .inl (iha h)
    · exact .inr (ihl h)
def renB (σ : Nat → Nat) (k : Blk) : Blk := bif k.lst then k else { k with cells := AV.renL σ k.cells }
def renH (σ : Nat → Nat) : List (Nat × Blk) → List (Nat × Blk)
  | [] => []
  | (t,k) :: l => (σ t,renB σ k) :: renH σ l
def minusH (ts : List Nat) : List (Nat × Blk) → List (Nat × Blk)
  | [] => []
  | (t,k) :: l => bif ts.any (Nat.beq t) then minusH ts l else (t,k) :: minusH ts l
theorem VR.unren {w : World} {Z : Zone} {σ : Nat → Nat} {v : AV} : ∀ {ι : Tags} {u : Value},VR w Z ι (v.ren σ) u → VR w Z (fun t => ι (σ t)) v u := by
  induction v using AV.rec (motive_2 := fun l => ∀ {ι : Tags} (us : List Value),(∀ i (hi : i < (AV.renL σ l).length),∃ u,us[i]? = some u ∧ VR w Z ι ((AV.renL σ l)[i]'hi) u) →
      ∀ i (hi : i < l.length),∃ u,us[i]? = some u ∧ VR w Z (fun t => ι (σ t)) (l[i]'hi) u) with
  | sc => intro ι u h; cases h; exact .sc _ _ _
  | rd => intro ι u h; exact VR.mono (fun _ _ h => h) h _ _ (fun _ _ h => h) (fun _ _ _ _ _ h => h) (fun t b hf => by simp [AV.ren,AV.free] at hf)
  | rdx => intro ι u h; exact VR.mono (fun _ _ h => h) h _ _ (fun _ _ h => h) (fun _ _ _ _ _ h => h) (fun t b hf => by simp [AV.ren,AV.free] at hf)
  | own =>
    intro ι u h
    cases h with
    | ownnil => exact .ownnil _ _ _ _ _
    | ownz => exact .ownz _ _ _ _ _ _ _
    | own _ _ _ _ _ _ b cap s ht hn hc hs ho => exact .own _ _ _ _ _ _ b cap s ht hn hc hs ho
  | ownc => intro ι u h; cases h; exact .ownc _ _ _ _ _ _ _ _ ‹_› ‹_› ‹_› ‹_› ‹_›
  | ptr => intro ι u h; cases h; exact .ptr _ _ _ _ _ ‹_›
  | rptr => intro ι u h; exact VR.mono (fun _ _ h => h) h _ _ (fun _ _ h => h) (fun _ _ _ _ _ h => h) (fun t b hf => by simp [AV.ren,AV.free] at hf)
  | agg cs ih =>
    intro ι u h
    cases h with
    | agg _ _ _ vs hl h =>
      have hl' : vs.length = cs.length := by rw [hl,AV.renL_eq]; simp
      refine .agg _ _ _ _ hl' fun i hi => ?_
      obtain ⟨y,hy,hv⟩ := ih vs (fun i hi => ⟨_,List.getElem?_eq_getElem (hl ▸ hi),h i hi⟩) i hi
      rw [List.getElem?_eq_getElem (hl' ▸ hi)] at hy
      rw [Option.some.inj hy]; exact hv
  | tup cs ih =>
    intro ι u h
    cases h with
    | tup _ _ _ vs hl h =>
      have hl' : vs.length = cs.length := by rw [hl,AV.renL_eq]; simp
      refine .tup _ _ _ _ hl' fun i hi => ?_
      obtain ⟨y,hy,hv⟩ := ih vs (fun i hi => ⟨_,List.getElem?_eq_getElem (hl ▸ hi),h i hi⟩) i hi
      rw [List.getElem?_eq_getElem (hl' ▸ hi)] at hy
      rw [Option.some.inj hy]; exact hv
  | clo f a b iha ihb =>
    intro ι u h
    cases h with
    | clo _ _ _ _ _ us vs hu hl h1 h2 =>
      have hu' : us.length = a.length := by rw [hu,AV.renL_eq]; simp
      have hl' : vs.length = b.length := by rw [hl,AV.renL_eq]; simp
      refine .clo _ _ _ _ _ _ _ hu' hl' (fun i hi => ?_) (fun i hi => ?_)
      · obtain ⟨y,hy,hv⟩ := iha us (fun i hi => ⟨_,List.getElem?_eq_getElem (hu ▸ hi),h1 i hi⟩) i hi
        rw [List.getElem?_eq_getElem (hu' ▸ hi)] at hy
        rw [Option.some.inj hy]; exact hv
      · obtain ⟨y,hy,hv⟩ := ihb vs (fun i hi => ⟨_,List.getElem?_eq_getElem (hl ▸ hi),h2 i hi⟩) i hi
        rw [List.getElem?_eq_getElem (hl' ▸ hi)] at hy
        rw [Option.some.inj hy]; exact hv
  | gd c v ih => intro ι u h; cases h with | gd _ _ _ _ _ h hu => exact .gd _ _ _ _ _ (fun hc => ih (h hc)) hu
  | any => intro ι u _; exact .any _ _ _
  | nil => rename_i ι us h i hi; exact absurd hi (by simp)
  | cons a l iha ihl =>
    rename_i ι us h i hi
    have hsz : (AV.renL σ (a :: l)).length = l.length + 1 := by rw [AV.renL_eq]; simp
    cases i with
    | zero =>
      obtain ⟨u,hu,hv⟩ := h 0 (by omega)
      exact ⟨u,hu,iha (by simpa [AV.renL] using hv)⟩
    | succ i =>
      cases us with
      | nil => obtain ⟨u,hu,_⟩ := h 0 (by omega); simp at hu
      | cons u0 us =>
        obtain ⟨u,hu,hv⟩ := ihl us (fun j hj => by
          obtain ⟨u,hu,hv⟩ := h (j + 1) (by simp [AV.renL]; omega)
          exact ⟨u,by simpa using hu,by simpa [AV.renL] using hv⟩) i (by simp at hi; omega)
        exact ⟨u,by simpa using hu,by simpa using hv⟩
theorem VR.renamed {w : World} {σ : Nat → Nat} {v : AV} : ∀ {Z : Zone} {ι ι' : Tags} {u : Value},VR w Z ι v u → (∀ t b,t ∈ AV.tags v → ι t = some b → ι' (σ t) = some b) → VR w Z ι' (v.ren σ) u := by
  induction v using AV.rec (motive_2 := fun l => ∀ {Z : Zone} {ι ι' : Tags} (us : List Value),(∀ i (hi : i < l.length),∃ u,us[i]? = some u ∧ VR w Z ι (l[i]'hi) u) →
      (∀ t b,t ∈ AV.tagsL l → ι t = some b → ι' (σ t) = some b) → ∀ i (hi : i < (AV.renL σ l).length),∃ u,us[i]? = some u ∧ VR w Z ι' ((AV.renL σ l)[i]'hi) u) with
  | sc => intro Z ι ι' u h _; cases h; exact .sc _ _ _
  | rd => intro Z ι ι' u h _; exact VR.mono (fun _ _ h => h) h _ _ (fun _ _ h => h) (fun _ _ _ _ _ h => h) (fun t b hf => by simp [AV.free] at hf)
  | rdx => intro Z ι ι' u h _; exact VR.mono (fun _ _ h => h) h _ _ (fun _ _ h => h) (fun _ _ _ _ _ h => h) (fun t b hf => by simp [AV.free] at hf)
  | own =>
    intro Z ι ι' u h hι
    cases h with
    | ownnil => exact .ownnil _ _ _ _ _
    | ownz => exact .ownz _ _ _ _ _ _ _
    | own _ _ _ _ _ _ b cap s ht hn hc hs ho => exact .own _ _ _ _ _ _ b cap s (hι _ _ (by simp [AV.tags]) ht) hn hc hs ho
  | ownc => intro Z ι ι' u h hι; cases h; exact .ownc _ _ _ _ _ _ _ _ (hι _ _ (by simp [AV.tags]) ‹_›) ‹_› ‹_› ‹_› ‹_›
  | ptr => intro Z ι ι' u h hι; cases h; exact .ptr _ _ _ _ _ (hι _ _ (by simp [AV.tags]) ‹_›)
  | rptr => intro Z ι ι' u h _; exact VR.mono (fun _ _ h => h) h _ _ (fun _ _ h => h) (fun _ _ _ _ _ h => h) (fun t b hf => by simp [AV.free] at hf)
  | agg cs ih =>
    intro Z ι ι' u h hι
    cases h with
    | agg _ _ _ vs hl h =>
      have hl' : vs.length = (AV.renL σ cs).length := by rw [hl,AV.renL_eq]; simp
      refine .agg _ _ _ _ hl' fun i hi => ?_
      obtain ⟨y,hy,hv⟩ := ih vs (fun i hi => ⟨_,List.getElem?_eq_getElem (hl ▸ hi),h i hi⟩) (fun t b ht => hι t b (by simpa [AV.tags] using ht)) i hi
      rw [List.getElem?_eq_getElem (hl' ▸ hi)] at hy
      rw [Option.some.inj hy]; exact hv
  | tup cs ih =>
    intro Z ι ι' u h hι
    cases h with
    | tup _ _ _ vs hl h =>
      have hl' : vs.length = (AV.renL σ cs).length := by rw [hl,AV.renL_eq]; simp
      refine .tup _ _ _ _ hl' fun i hi => ?_
      obtain ⟨y,hy,hv⟩ := ih vs (fun i hi => ⟨_,List.getElem?_eq_getElem (hl ▸ hi),h i hi⟩) (fun t b ht => hι t b (by simpa [AV.tags] using ht)) i hi
      rw [List.getElem?_eq_getElem (hl' ▸ hi)] at hy
      rw [Option.some.inj hy]; exact hv
  | clo f a b iha ihb =>
    intro Z ι ι' u h hι
    cases h with
    | clo _ _ _ _ _ us vs hu hl h1 h2 =>
      have hu' : us.length = (AV.renL σ a).length := by rw [hu,AV.renL_eq]; simp
      have hl' : vs.length = (AV.renL σ b).length := by rw [hl,AV.renL_eq]; simp
      refine .clo _ _ _ _ _ _ _ hu' hl' (fun i hi => ?_) (fun i hi => ?_)
      · obtain ⟨y,hy,hv⟩ := iha us (fun i hi => ⟨_,List.getElem?_eq_getElem (hu ▸ hi),h1 i hi⟩) (fun t b ht => hι t b (by simp [AV.tags,ht])) i hi
        rw [List.getElem?_eq_getElem (hu' ▸ hi)] at hy
        rw [Option.some.inj hy]; exact hv
      · obtain ⟨y,hy,hv⟩ := ihb vs (fun i hi => ⟨_,List.getElem?_eq_getElem (hl ▸ hi),h2 i hi⟩) (fun t b ht => hι t b (by simp [AV.tags,ht])) i hi
        rw [List.getElem?_eq_getElem (hl' ▸ hi)] at hy
        rw [Option.some.inj hy]; exact hv
  | gd c v ih => intro Z ι ι' u h hι; cases h with | gd _ _ _ _ _ h hu => exact .gd _ _ _ _ _ (fun hc => ih (h hc) (fun t b ht => hι t b (by simpa [AV.tags] using ht))) hu
  | any => intro Z ι ι' u _ _; exact .any _ _ _
  | nil => rename_i Z ι ι' us h hι i hi; exact absurd hi (by simp [AV.renL])
  | cons a l iha ihl =>
    rename_i Z ι ι' us h hι i hi
    cases i with
    | zero =>
      obtain ⟨u,hu,hv⟩ := h 0 (by simp)
      refine ⟨u,hu,?_⟩
      simp only [AV.renL,List.getElem_cons_zero]
      exact iha hv (fun t b ht => hι t b (by simp [AV.tagsL,ht]))
    | succ i =>
      cases us with
      | nil => obtain ⟨u,hu,_⟩ := h 0 (by simp); simp at hu
      | cons u0 us =>
        obtain ⟨u,hu,hv⟩ := ihl us (fun j hj => by
          obtain ⟨u,hu,hv⟩ := h (j + 1) (by simp; omega)
          exact ⟨u,by simpa using hu,by simpa using hv⟩) (fun t b ht => hι t b (by simp [AV.tagsL,ht])) i (by simp [AV.renL] at hi; omega)
        exact ⟨u,by simpa using hu,by simpa [AV.renL] using hv⟩
end Go.AB
namespace Go.AB
open Go
def dom {α : Type} (H : List (Nat × α)) : List Nat := H.map (·.1)
theorem has_dom {α : Type} {t : Nat} : ∀ {H : List (Nat × α)},has t H ↔ t ∈ dom H
  | [] => by simp [has,look,dom]
  | (t',k) :: H => by
    by_cases h : t = t'
    · subst h; exact ⟨fun _ => by simp [dom],fun _ => ⟨k,look_cons_self _ _ _⟩⟩
    · have := has_dom (t := t) (H := H)
      unfold has at this ⊢
      rw [look_cons_ne h,this]
      simp [dom,h]
def anyT (ts : List Nat) (t : Nat) : Bool := ts.any (Nat.beq t)
theorem anyT_iff {ts : List Nat} {t : Nat} : anyT ts t = true ↔ t ∈ ts := by
  simp only [anyT,List.any_eq_true]
  constructor
  · rintro ⟨x,hx,h⟩; rw [Nat.beq_eq] at h; exact h ▸ hx
  · intro h; exact ⟨t,h,Nat.beq_refl t⟩
def purgeAL (ts : List Nat) (v : AV) : AV := bif ts.all (fun t => AV.free t v) then v else .any
def purgeEL (ts : List Nat) (E : List (Nat × AV)) : List (Nat × AV) := E.map fun p => (p.1,purgeAL ts p.2)
def purgeBL (ts : List Nat) (k : Blk) : Blk := bif k.lst then k else { k with cells := k.cells.map (purgeAL ts) }
def purgeHL (ts : List Nat) (H : List (Nat × Blk)) : List (Nat × Blk) := H.map fun p => (p.1,purgeBL ts p.2)
theorem look_map {α β : Type} (f : α → β) (d : Nat) : ∀ l : List (Nat × α),look d (l.map fun p => (p.1,f p.2)) = (look d l).map f
  | [] => rfl
  | (d',v) :: l => by
    by_cases h : d = d'
    · subst h; simp [look]
    · simp only [List.map_cons,look,beq_ne h,cond_false]; exact look_map f d l
theorem look_minusH {ts : List Nat} {t : Nat} : ∀ {H : List (Nat × Blk)},look t (minusH ts H) = if t ∈ ts then none else look t H
  | [] => by simp [minusH,look]
  | (t',k) :: H => by
    have ih := look_minusH (ts := ts) (t := t) (H := H)
    by_cases h : anyT ts t' = true
    · have : minusH ts ((t',k) :: H) = minusH ts H := by
        have h' : ts.any (Nat.beq t') = true := h
        simp [minusH,h']
      rw [this,ih]
      by_cases e : t = t'
      · subst e; rw [if_pos (anyT_iff.1 h),if_pos (anyT_iff.1 h)]
      · rw [look_cons_ne e]
    · have : minusH ts ((t',k) :: H) = (t',k) :: minusH ts H := by
        have h' : ts.any (Nat.beq t') = false := by rw [← Bool.not_eq_true]; exact h
        simp [minusH,h']
      rw [this]
      by_cases e : t = t'
      · subst e
        rw [look_cons_self,look_cons_self,if_neg]
        intro hm; exact h (anyT_iff.2 hm)
      · rw [look_cons_ne e,look_cons_ne e,ih]
theorem look_append {α : Type} {t : Nat} : ∀ {l m : List (Nat × α)},look t (l ++ m) = match look t l with | some v => some v | none => look t m
  | [],m => by simp [look]
  | (t',v) :: l,m => by
    by_cases e : t = t'
    · subst e; simp [look]
    · rw [List.cons_append,look_cons_ne e,look_cons_ne e]; exact look_append
theorem look_renH {σ : Nat → Nat} {t : Nat} : ∀ {H : List (Nat × Blk)},(∀ a,a ∈ dom H → σ a = σ t → a = t) → look (σ t) (renH σ H) = (look t H).map (renB σ)
  | [],_ => by simp [renH,look]
  | (t',k) :: H,hinj => by
    by_cases e : t = t'
    · subst e; simp [renH,look]
    · have hne : σ t ≠ σ t' := fun h => e (hinj t' (by simp [dom]) h.symm).symm
      simp only [renH]
      rw [look_cons_ne hne,look_cons_ne e]
      exact look_renH fun a ha h => hinj a (by simp [dom] at ha ⊢; exact .inr ha) h
theorem look_renH_none {σ : Nat → Nat} {x : Nat} : ∀ {H : List (Nat × Blk)},(∀ a,a ∈ dom H → σ a ≠ x) → look x (renH σ H) = none
  | [],_ => by simp [renH,look]
  | (t',k) :: H,h => by
    simp only [renH]
    rw [look_cons_ne (fun e => h t' (by simp [dom]) e.symm)]
    exact look_renH_none fun a ha => h a (by simp [dom] at ha ⊢; exact .inr ha)
theorem VR.monoC {w : World} {Z : Zone} {ι : Tags} {v : AV} {u : Value} (h : VR w Z ι v u) : ∀ (Z' : Zone),(∀ b,Z false b → Z' false b) → AV.clean v = true → VR w Z' ι v u := by
  induction h with
  | sc Z ι v => intro Z' _ _; exact .sc _ _ _
  | rdnil Z ι β a0 => intro Z' _ _; exact .rdnil _ _ _ _
  | rd Z ι β n cells b off cap vs hz hn hc hv h ih =>
    intro Z' hZ hcl
    have hβ : β = false := by simpa [AV.clean] using hcl
    subst hβ
    exact .rd _ _ _ _ _ _ _ _ _ (fun hne => hZ _ (hz hne)) hn hc hv fun i hi => (h i hi).mono (fun _ _ h => h) _ _ (fun _ b hb => hZ b hb) (fun _ _ _ _ _ h => h) (fun _ _ _ h => h)
  | rdx Z ι β n cells b off vs hz hc hv h ih =>
    intro Z' hZ hcl
    have hβ : β = false := by simpa [AV.clean] using hcl
    subst hβ
    exact .rdx _ _ _ _ _ _ _ _ (fun hne => hZ _ (hz hne)) hc hv fun i hi => (h i hi).mono (fun _ _ h => h) _ _ (fun _ b hb => hZ b hb) (fun _ _ _ _ _ h => h) (fun _ _ _ h => h)
  | rdxnil Z ι β a0 => intro Z' _ _; exact .rdxnil _ _ _ _
  | ownnil Z ι t sz off => intro Z' _ _; exact .ownnil _ _ _ _ _
  | ownz Z ι t sz off b o => intro Z' _ _; exact .ownz _ _ _ _ _ _ _
  | own Z ι t sz off n b cap s ht hn hc hs ho => intro Z' _ _; exact .own _ _ _ _ _ _ _ _ _ ht hn hc hs ho
  | ownc Z ι t sz n b c s ht hn hc hs ho => intro Z' _ _; exact .ownc _ _ _ _ _ _ _ _ ht hn hc hs ho
  | ptr Z ι t off b ht => intro Z' _ _; exact .ptr _ _ _ _ _ ht
  | rptr Z ι β cells b off vs hz hv h ih =>
    intro Z' hZ hcl
    have hβ : β = false := by simpa [AV.clean] using hcl
    subst hβ
    exact .rptr _ _ _ _ _ _ _ (fun hne => hZ _ (hz hne)) hv fun i hi => (h i hi).mono (fun _ _ h => h) _ _ (fun _ b hb => hZ b hb) (fun _ _ _ _ _ h => h) (fun _ _ _ h => h)
  | agg Z ι cells vs hl h ih =>
    intro Z' hZ hcl
    refine .agg _ _ _ _ hl fun i hi => ih i hi Z' hZ ?_
    simp only [AV.clean,AV.cleanL_eq,List.all_eq_true] at hcl
    exact hcl _ (List.getElem_mem hi)
  | tup Z ι cells vs hl h ih =>
    intro Z' hZ hcl
    refine .tup _ _ _ _ hl fun i hi => ih i hi Z' hZ ?_
    simp only [AV.clean,AV.cleanL_eq,List.all_eq_true] at hcl
    exact hcl _ (List.getElem_mem hi)
  | clo Z ι f a c us vs hu hl h1 h2 ih1 ih2 =>
    intro Z' hZ hcl
    simp only [AV.clean,AV.cleanL_eq,List.all_eq_true,Bool.and_eq_true] at hcl
    exact .clo _ _ _ _ _ _ _ hu hl (fun i hi => ih1 i hi Z' hZ (hcl.1 _ (List.getElem_mem hi))) (fun i hi => ih2 i hi Z' hZ (hcl.2 _ (List.getElem_mem hi)))
  | gd Z ι c x v h hu ih => intro Z' hZ hcl; exact .gd _ _ _ _ _ (fun hc => ih hc Z' hZ (by simpa [AV.clean] using hcl)) hu
  | any Z ι v => intro Z' _ _; exact .any _ _ _
def cctx (C : Ctx) (s : St) (σ : Nat → Nat) (H : List (Nat × Blk)) (bw : Bool) (K : List Nat) (ι : Tags) (w : World) : Ctx :=
  ⟨C.P,C.r,C.N,C.dfr,w,fun b => zone C s.heap ι w false b,fun b => zone C s.heap ι w true b ∨ (bw = true ∧ ∃ t,has t (minusH ((dom H).map σ) s.heap) ∧ ι t = some b),
    ownedBy H (fun t => ι (σ t)),K,fun t => ι (σ t)⟩
def Cv (C : Ctx) (s : St) (σ : Nat → Nat) (H : List (Nat × Blk)) (bw : Bool) (v v' : AV) : Prop :=
  ∀ (K : List Nat) ι a w u,Rel C s ι a w → (∀ t,has t H → has (σ t) s.heap) → VR w (zone C s.heap ι w) ι v u → VR w (zone (cctx C s σ H bw K ι w) H (fun t => ι (σ t)) w) (fun t => ι (σ t)) v' u
theorem zone_cctx {C : Ctx} {s : St} {σ : Nat → Nat} {H : List (Nat × Blk)} {bw : Bool} {K : List Nat} {ι : Tags} {w : World} (hH : ∀ t,has t H → has (σ t) s.heap) {β : Bool} {b : Nat} (h : zone C s.heap ι w β b) :
    zone (cctx C s σ H bw K ι w) H (fun t => ι (σ t)) w β b := by
  refine ⟨h.1,fun t ht => h.2.1 (σ t) (hH t ht),?_⟩
  cases β with
  | true => exact .inl ⟨rfl,.inl h⟩
  | false => exact .inr (.inl h)
theorem Cv.ren {C : Ctx} {s : St} {σ : Nat → Nat} {H : List (Nat × Blk)} {bw : Bool} {v v' : AV} (h : v = v'.ren σ) : Cv C s σ H bw v v' := by
  subst h
  intro K ι a w u r hH hv
  exact hv.unren.mono (fun _ _ h => h) _ _ (fun _ _ h => zone_cctx hH h) (fun _ _ _ _ _ h => h) (fun _ _ _ h => h)
theorem Cv.lend {C : Ctx} {s : St} {σ : Nat → Nat} {H : List (Nat × Blk)} {t sz off n : Nat} {k : Blk} {sub : List AV} (hk : look t s.heap = some k) (hlst : k.lst = true) (ht : t ∉ (dom H).map σ)
    (hs : sub = (k.cells.drop off).take (n * sz)) (hl : sub.length = n * sz) : Cv C s σ H true (.own t sz off n) (.rd true n sub) := by
  intro K ι a w u r hH hv
  rcases own_inv hv with ⟨rfl,hu⟩ | ⟨b,cap,q,hu,hb,hn,hc,_⟩
  · have : sub = [] := List.eq_nil_of_length_eq_zero (by simpa using hl)
    subst this
    rcases hu with hu | ⟨b,o,hu⟩
    · rw [hu]; exact .rdnil _ _ _ _
    · rw [hu]; exact .rd _ _ _ _ _ _ _ _ (fun _ => undef) (fun h => absurd rfl h) (Nat.le_refl _) (by simp [maxLen]) (fun i hi => absurd hi (by simp)) (fun i hi => absurd hi (by simp))
  · obtain ⟨cur,hcur,hlen,h⟩ := blk_inv r.core hk hb
    simp only [hlst,cond_true] at h
    have hz : zone (cctx C s σ H true K ι w) H (fun t => ι (σ t)) w true b := by
      refine ⟨(Array.getElem?_eq_some_iff.1 hcur).1,fun t' ht' e => ht ?_,.inl ⟨rfl,.inr ⟨rfl,t,⟨k,by rw [look_minusH,if_neg ht]; exact hk⟩,hb⟩⟩⟩
      have := r.core.inj _ _ b (hH t' ht') ⟨k,hk⟩ e hb
      rw [← this]
      exact List.mem_map.2 ⟨t',has_dom.1 ht',rfl⟩
    rw [hu]
    have key : ∀ i,i < sub.length → ∃ h' : off + i < k.cells.length,sub[i]? = some k.cells[off + i] := fun i hi => by
      have h1 : (k.cells.drop off).length ≥ n * sz ∨ n * sz = 0 := by
        rw [hs] at hl; simp at hl ⊢; omega
      have h' : off + i < k.cells.length := by simp at h1; omega
      exact ⟨h',by rw [hs,List.getElem?_take,if_pos (by omega),List.getElem?_drop,List.getElem?_eq_getElem h']⟩
    refine .rd _ _ _ _ _ b off cap (fun i => cur.getD (off + i) undef) (fun _ => hz) hn hc (fun i hi => ?_) (fun i hi => ?_)
    · obtain ⟨h',_⟩ := key i hi
      rw [cell_of_row w b (off + i) cur k.ty (0,0) hcur]
      have : off + i < cur.size := by omega
      simp [Array.getD_eq_getD_getElem?,this]
    · obtain ⟨h',e⟩ := key i hi
      obtain ⟨y,hy,hvr⟩ := h _ h'
      rw [List.getElem?_eq_getElem hi] at e
      rw [Option.some.inj e]
      have : cur.getD (off + i) undef = y := by simp [Array.getD_eq_getD_getElem?,hy]
      rw [this]
      refine hvr.mono (fun _ _ h => h) _ _ (fun _ b' hb' => ?_) (fun _ _ _ _ _ h => h) (fun _ _ _ h => h)
      have := zone_cctx (bw := true) (K := K) hH hb'
      exact ⟨this.1,this.2.1,.inr (.inl hb')⟩
inductive ArgL (C : Ctx) (s : St) (σ : Nat → Nat) (H : List (Nat × Blk)) (bw : Bool) : List Operand → List AV → Prop
  | nil : ArgL C s σ H bw [] []
  | cons {x : Operand} {v v' : AV} {xs : List Operand} {vs : List AV} (h : Ev C s x v) (hc : Cv C s σ H bw v v') (t : ArgL C s σ H bw xs vs) : ArgL C s σ H bw (x :: xs) (v' :: vs)
theorem ArgL.vrs {C : Ctx} {s : St} {σ : Nat → Nat} {H : List (Nat × Blk)} {bw : Bool} {xs : List Operand} {avs : List AV} (h : ArgL C s σ H bw xs avs) (hH : ∀ t,has t H → has (σ t) s.heap) {ι : Tags} {a : Act} {w : World}
    (r : Rel C s ι a w) (K : List Nat) : VRs w (zone (cctx C s σ H bw K ι w) H (fun t => ι (σ t)) w) (fun t => ι (σ t)) avs (xs.map a.eval) := by
  induction h with
  | nil => exact ⟨rfl,fun i hi => absurd hi (by simp)⟩
  | cons h hc t ih =>
    obtain ⟨h1,h2⟩ := ih
    refine ⟨by simpa using h1,fun i hi => ?_⟩
    cases i with
    | zero => exact ⟨_,rfl,hc K ι a w _ r hH (h ι a w r)⟩
    | succ i =>
      obtain ⟨u,hu,hv⟩ := h2 i (by simpa using hi)
      exact ⟨u,by simpa using hu,by simpa using hv⟩
end Go.AB
