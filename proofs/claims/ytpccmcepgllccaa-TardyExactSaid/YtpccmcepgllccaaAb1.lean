/-
  AB, part 1: abstract values and states over the fenced walk. An abstract value (AV) says what a Go value stands for: a scalar; a slice that is only read, with what it holds;
  a slice or a pointer into a block that the function owns. A state is a finite list of slots and of owned blocks. 'rel' ties a state to a frame and a world. No claim is stated here.
-/
import Derived.TacticsIn
import Derived.DefersIn
import Derived.OwnWalkIn
import Derived.Laws.AppendOwn
import Derived.Laws.MakeOwn
namespace Go.AB
open Go

/-- The fence that lets everything in. -/
abbrev Fc (r : Option Nat) : Fence := { fn := fun _ => True, depth := none, alive := false, round := r }

inductive AV where
  | sc (v : Value)
  | rd (β : Bool) (n : Nat) (cells : List AV)
  | rdx (β : Bool) (n : Nat) (cells : List AV)
  | own (t sz off n : Nat)
  | ptr (t off : Nat)
  | rptr (β : Bool) (cells : List AV)
  | agg (cells : List AV)
  | tup (vs : List AV)
  | clo (fn : Go.Fn) (first captured : List AV)
  | gd (c : Bool) (v : AV)
  | any

/-- no owned block, nothing borrowed: by the outermost forms -/
def AV.scal : AV → Bool
  | .sc _ => true
  | _ => false

mutual
/-- free of tag t -/
def AV.free (t : Nat) : AV → Bool
  | .own t' _ _ _ => t' != t
  | .ptr t' _ => t' != t
  | .agg cs => AV.freeL t cs
  | .tup cs => AV.freeL t cs
  | .clo _ a b => AV.freeL t a && AV.freeL t b
  | .gd _ v => AV.free t v
  | _ => true
def AV.freeL (t : Nat) : List AV → Bool
  | [] => true
  | a :: l => AV.free t a && AV.freeL t l
end

mutual
/-- with the flag β at every reading -/
def AV.flag (β : Bool) : AV → AV
  | .rd _ n cs => .rd β n cs
  | .rptr _ cs => .rptr β cs
  | .rdx _ n cs => .rdx β n cs
  | .agg cs => .agg (AV.flagL β cs)
  | .tup cs => .tup (AV.flagL β cs)
  | .clo f a b => .clo f (AV.flagL β a) (AV.flagL β b)
  | .gd c v => .gd c (AV.flag β v)
  | a => a
def AV.flagL (β : Bool) : List AV → List AV
  | [] => []
  | a :: l => AV.flag β a :: AV.flagL β l
end

mutual
/-- nothing borrowed -/
def AV.clean : AV → Bool
  | .rd β _ _ => !β
  | .rptr β _ => !β
  | .rdx β _ _ => !β
  | .agg cs => AV.cleanL cs
  | .tup cs => AV.cleanL cs
  | .clo _ a b => AV.cleanL a && AV.cleanL b
  | .gd _ v => AV.clean v
  | _ => true
def AV.cleanL : List AV → Bool
  | [] => true
  | a :: l => AV.clean a && AV.cleanL l
end

mutual
/-- the tags written anew -/
def AV.ren (σ : Nat → Nat) : AV → AV
  | .own t sz off n => .own (σ t) sz off n
  | .ptr t off => .ptr (σ t) off
  | .agg cs => .agg (AV.renL σ cs)
  | .tup cs => .tup (AV.renL σ cs)
  | .clo f a b => .clo f (AV.renL σ a) (AV.renL σ b)
  | .gd c v => .gd c (AV.ren σ v)
  | a => a
def AV.renL (σ : Nat → Nat) : List AV → List AV
  | [] => []
  | a :: l => AV.ren σ a :: AV.renL σ l
end

theorem AV.flagL_eq (β : Bool) (l : List AV) : AV.flagL β l = l.map (AV.flag β) := by
  induction l with
  | nil => simp [AV.flagL]
  | cons a l ih => simp [AV.flagL, ih]
theorem AV.renL_eq (σ : Nat → Nat) (l : List AV) : AV.renL σ l = l.map (AV.ren σ) := by
  induction l with
  | nil => simp [AV.renL]
  | cons a l ih => simp [AV.renL, ih]
theorem AV.freeL_eq (t : Nat) (l : List AV) : AV.freeL t l = l.all (AV.free t) := by
  induction l with
  | nil => simp [AV.freeL]
  | cons a l ih => simp [AV.freeL, ih]
theorem AV.cleanL_eq (l : List AV) : AV.cleanL l = l.all AV.clean := by
  induction l with
  | nil => simp [AV.cleanL]
  | cons a l ih => simp [AV.cleanL, ih]

/-- How many cells a block has. -/
def bsz (w : World) (b : Nat) : Option Nat :=
  match w.heap[b]? with
  | some (.cells c _ _) => some c.size
  | _ => none

abbrev Zone := Bool → Nat → Prop
abbrev Tags := Nat → Option Nat

/-- What a value stands for. 'Z β': the blocks in which readings of the flag β lie; 'ι': the blocks of the tags. -/
inductive VR (w : World) : Zone → Tags → AV → Value → Prop
  | sc (Z : Zone) (ι : Tags) (v : Value) : VR w Z ι (.sc v) v
  | rdnil (Z : Zone) (ι : Tags) (β : Bool) (a : Option Addr) : VR w Z ι (.rd β 0 []) (.slice a 0 0)
  | rd (Z : Zone) (ι : Tags) (β : Bool) (n : Nat) (cells : List AV) (b off cap : Nat) (vs : Nat → Value) (hz : cells ≠ [] → Z β b) (hn : n ≤ cap) (hc : cap ≤ maxLen)
      (hv : ∀ i, i < cells.length → w.cell? ⟨b, off + i, none⟩ = some (vs i)) (h : ∀ i (hi : i < cells.length), VR w (fun _ => Z β) (fun _ => none) (cells[i]'hi) (vs i)) :
      VR w Z ι (.rd β n cells) (.slice (some ⟨b, off, none⟩) n cap)
  | rdx (Z : Zone) (ι : Tags) (β : Bool) (n : Nat) (cells : List AV) (b off : Nat) (vs : Nat → Value) (hz : cells ≠ [] → Z β b) (hc : n ≤ maxLen)
      (hv : ∀ i, i < cells.length → w.cell? ⟨b, off + i, none⟩ = some (vs i)) (h : ∀ i (hi : i < cells.length), VR w (fun _ => Z β) (fun _ => none) (cells[i]'hi) (vs i)) :
      VR w Z ι (.rdx β n cells) (.slice (some ⟨b, off, none⟩) n n)
  | rdxnil (Z : Zone) (ι : Tags) (β : Bool) (a : Option Addr) : VR w Z ι (.rdx β 0 []) (.slice a 0 0)
  | ownnil (Z : Zone) (ι : Tags) (t sz off : Nat) : VR w Z ι (.own t sz off 0) (.slice none 0 0)
  | ownz (Z : Zone) (ι : Tags) (t sz off b o : Nat) : VR w Z ι (.own t sz off 0) (.slice (some ⟨b, o, none⟩) 0 0)
  | own (Z : Zone) (ι : Tags) (t sz off n b cap s : Nat) (ht : ι t = some b) (hn : n ≤ cap) (hc : cap ≤ maxLen) (hs : bsz w b = some s) (ho : off + cap * sz ≤ s) :
      VR w Z ι (.own t sz off n) (.slice (some ⟨b, off, none⟩) n cap)
  | ptr (Z : Zone) (ι : Tags) (t off b : Nat) (ht : ι t = some b) : VR w Z ι (.ptr t off) (.pointer (some ⟨b, off, none⟩))
  | rptr (Z : Zone) (ι : Tags) (β : Bool) (cells : List AV) (b off : Nat) (vs : Nat → Value) (hz : cells ≠ [] → Z β b)
      (hv : ∀ i, i < cells.length → w.cell? ⟨b, off + i, none⟩ = some (vs i)) (h : ∀ i (hi : i < cells.length), VR w (fun _ => Z β) (fun _ => none) (cells[i]'hi) (vs i)) :
      VR w Z ι (.rptr β cells) (.pointer (some ⟨b, off, none⟩))
  | agg (Z : Zone) (ι : Tags) (cells : List AV) (vs : List Value) (hl : vs.length = cells.length) (h : ∀ i (hi : i < cells.length), VR w Z ι (cells[i]'hi) (vs[i]'(hl ▸ hi))) :
      VR w Z ι (.agg cells) (.agg vs.toArray)
  | tup (Z : Zone) (ι : Tags) (cells : List AV) (vs : List Value) (hl : vs.length = cells.length) (h : ∀ i (hi : i < cells.length), VR w Z ι (cells[i]'hi) (vs[i]'(hl ▸ hi))) :
      VR w Z ι (.tup cells) (.tuple vs.toArray)
  | clo (Z : Zone) (ι : Tags) (f : Go.Fn) (a c : List AV) (us vs : List Value) (hu : us.length = a.length) (hl : vs.length = c.length)
      (h1 : ∀ i (hi : i < a.length), VR w Z ι (a[i]'hi) (us[i]'(hu ▸ hi))) (h2 : ∀ i (hi : i < c.length), VR w Z ι (c[i]'hi) (vs[i]'(hl ▸ hi))) :
      VR w Z ι (.clo f a c) (.func f us.toArray vs.toArray)
  | gd (Z : Zone) (ι : Tags) (c : Bool) (x : AV) (v : Value) (h : c = true → VR w Z ι x v) (hu : c = false → v = undef) : VR w Z ι (.gd c x) v
  | any (Z : Zone) (ι : Tags) (v : Value) : VR w Z ι .any v

/-- From one world, zone, tags to another: the cells of the zone read as they did; blocks keep their sizes; the tags that occur keep their blocks. -/
theorem VR.mono {w w' : World} (hsz : ∀ b n, bsz w b = some n → bsz w' b = some n) {Z : Zone} {ι : Tags} {a : AV} {v : Value} (h : VR w Z ι a v) :
    ∀ (Z' : Zone) (ι' : Tags), (∀ β b, Z β b → Z' β b) → (∀ β b o u, Z β b → w.cell? ⟨b, o, none⟩ = some u → w'.cell? ⟨b, o, none⟩ = some u) →
      (∀ t b, AV.free t a = false → ι t = some b → ι' t = some b) → VR w' Z' ι' a v := by
  induction h with
  | sc Z ι v => intro Z' ι' _ _ _; exact .sc _ _ _
  | rdnil Z ι β a0 => intro Z' ι' _ _ _; exact .rdnil _ _ _ _
  | rd Z ι β n cells b off cap vs hz hn hc hv h ih =>
    intro Z' ι' hZ hcell _
    refine .rd _ _ β n cells b off cap vs (fun hne => hZ _ _ (hz hne)) hn hc ?_ ?_
    · intro i hi
      exact hcell β b _ _ (hz (by intro e; subst e; simp at hi)) (hv i hi)
    · intro i hi
      exact ih i hi (fun _ => Z' β) (fun _ => none) (fun _ b' hb => hZ _ _ hb) (fun _ b' o u hb => hcell β b' o u hb) (fun _ _ _ h => h)
  | rdx Z ι β n cells b off vs hz hc hv h ih =>
    intro Z' ι' hZ hcell _
    refine .rdx _ _ β n cells b off vs (fun hne => hZ _ _ (hz hne)) hc ?_ ?_
    · intro i hi
      exact hcell β b _ _ (hz (by intro e; subst e; simp at hi)) (hv i hi)
    · intro i hi
      exact ih i hi (fun _ => Z' β) (fun _ => none) (fun _ b' hb => hZ _ _ hb) (fun _ b' o u hb => hcell β b' o u hb) (fun _ _ _ h => h)
  | rdxnil Z ι β a0 => intro Z' ι' _ _ _; exact .rdxnil _ _ _ _
  | ownnil Z ι t sz off => intro Z' ι' _ _ _; exact .ownnil _ _ _ _ _
  | ownz Z ι t sz off b o => intro Z' ι' _ _ _; exact .ownz _ _ _ _ _ _ _
  | own Z ι t sz off n b cap s ht hn hc hs ho =>
    intro Z' ι' _ _ hι; exact .own _ _ _ _ _ _ b cap s (hι t b (by simp [AV.free]) ht) hn hc (hsz _ _ hs) ho
  | ptr Z ι t off b ht => intro Z' ι' _ _ hι; exact .ptr _ _ _ _ b (hι t b (by simp [AV.free]) ht)
  | rptr Z ι β cells b off vs hz hv h ih =>
    intro Z' ι' hZ hcell _
    refine .rptr _ _ β cells b off vs (fun hne => hZ _ _ (hz hne)) ?_ ?_
    · intro i hi
      exact hcell β b _ _ (hz (by intro e; subst e; simp at hi)) (hv i hi)
    · intro i hi
      exact ih i hi (fun _ => Z' β) (fun _ => none) (fun _ b' hb => hZ _ _ hb) (fun _ b' o u hb => hcell β b' o u hb) (fun _ _ _ h => h)
  | agg Z ι cells vs hl h ih =>
    intro Z' ι' hZ hcell hι
    refine .agg _ _ _ _ hl fun i hi => ih i hi Z' ι' hZ hcell fun t b ht => hι t b ?_
    simp only [AV.free, AV.freeL_eq, List.all_eq_false]
    exact ⟨_, List.getElem_mem hi, by simp [ht]⟩
  | tup Z ι cells vs hl h ih =>
    intro Z' ι' hZ hcell hι
    refine .tup _ _ _ _ hl fun i hi => ih i hi Z' ι' hZ hcell fun t b ht => hι t b ?_
    simp only [AV.free, AV.freeL_eq, List.all_eq_false]
    exact ⟨_, List.getElem_mem hi, by simp [ht]⟩
  | clo Z ι f a c us vs hu hl h1 h2 ih1 ih2 =>
    intro Z' ι' hZ hcell hι
    refine .clo _ _ _ _ _ _ _ hu hl (fun i hi => ih1 i hi Z' ι' hZ hcell fun t b ht => hι t b ?_) (fun i hi => ih2 i hi Z' ι' hZ hcell fun t b ht => hι t b ?_)
    · have : AV.freeL t a = false := by
        rw [AV.freeL_eq, List.all_eq_false]
        exact ⟨_, List.getElem_mem hi, by simp [ht]⟩
      simp [AV.free, this]
    · have : AV.freeL t c = false := by
        rw [AV.freeL_eq, List.all_eq_false]
        exact ⟨_, List.getElem_mem hi, by simp [ht]⟩
      simp [AV.free, this]
  | gd Z ι c x v h hu ih => intro Z' ι' hZ hcell hι; exact .gd _ _ _ _ _ (fun hc => ih hc Z' ι' hZ hcell fun t b ht => hι t b (by simpa [AV.free] using ht)) hu
  | any Z ι v => intro Z' ι' _ _ _; exact .any _ _ _

/-- What lies in one zone, free of tags, read under a flag. -/
theorem VR.flagged {w : World} {Z : Zone} {ι : Tags} {a : AV} {v : Value} (h : VR w Z ι a v) :
    ∀ (Z' : Zone) (ι' : Tags) (β : Bool), (∀ γ b, Z γ b → Z' β b) → (∀ t b, AV.free t a = false → ι t = some b → ι' t = some b) → VR w Z' ι' (a.flag β) v := by
  induction h with
  | sc Z ι v => intro Z' ι' β _ _; exact .sc _ _ _
  | rdnil Z ι β a0 => intro Z' ι' β _ _; exact .rdnil _ _ _ _
  | rd Z ι γ n cells b off cap vs hz hn hc hv h ih =>
    intro Z' ι' β hZ _
    refine .rd _ _ β n cells b off cap vs (fun hne => hZ _ _ (hz hne)) hn hc hv fun i hi => (h i hi).mono (fun _ _ h => h) _ _ (fun _ b' hb => hZ _ _ hb) (fun _ _ _ _ _ h => h) (fun _ _ _ h => h)
  | rdx Z ι γ n cells b off vs hz hc hv h ih =>
    intro Z' ι' β hZ _
    refine .rdx _ _ β n cells b off vs (fun hne => hZ _ _ (hz hne)) hc hv fun i hi => (h i hi).mono (fun _ _ h => h) _ _ (fun _ b' hb => hZ _ _ hb) (fun _ _ _ _ _ h => h) (fun _ _ _ h => h)
  | rdxnil Z ι γ a0 => intro Z' ι' β _ _; exact .rdxnil _ _ _ _
  | ownnil Z ι t sz off => intro Z' ι' β _ _; exact .ownnil _ _ _ _ _
  | ownz Z ι t sz off b o => intro Z' ι' β _ _; exact .ownz _ _ _ _ _ _ _
  | own Z ι t sz off n b cap s ht hn hc hs ho => intro Z' ι' β _ hι; exact .own _ _ _ _ _ _ b cap s (hι t b (by simp [AV.free]) ht) hn hc hs ho
  | ptr Z ι t off b ht => intro Z' ι' β _ hι; exact .ptr _ _ _ _ b (hι t b (by simp [AV.free]) ht)
  | rptr Z ι γ cells b off vs hz hv h ih =>
    intro Z' ι' β hZ _
    exact .rptr _ _ β cells b off vs (fun hne => hZ _ _ (hz hne)) hv fun i hi => (h i hi).mono (fun _ _ h => h) _ _ (fun _ b' hb => hZ _ _ hb) (fun _ _ _ _ _ h => h) (fun _ _ _ h => h)
  | agg Z ι cells vs hl h ih =>
    intro Z' ι' β hZ hι
    have hl' : vs.length = (AV.flagL β cells).length := by rw [AV.flagL_eq]; simpa using hl
    refine .agg _ _ _ _ hl' fun i hi => ?_
    have hi' : i < cells.length := by rw [AV.flagL_eq] at hi; simpa using hi
    have e : (AV.flagL β cells)[i]'hi = AV.flag β (cells[i]'hi') := by simp [AV.flagL_eq]
    rw [e]
    refine ih i hi' Z' ι' β hZ fun t b ht => hι t b ?_
    simp only [AV.free, AV.freeL_eq, List.all_eq_false]
    exact ⟨_, List.getElem_mem hi', by simp [ht]⟩
  | tup Z ι cells vs hl h ih =>
    intro Z' ι' β hZ hι
    have hl' : vs.length = (AV.flagL β cells).length := by rw [AV.flagL_eq]; simpa using hl
    refine .tup _ _ _ _ hl' fun i hi => ?_
    have hi' : i < cells.length := by rw [AV.flagL_eq] at hi; simpa using hi
    have e : (AV.flagL β cells)[i]'hi = AV.flag β (cells[i]'hi') := by simp [AV.flagL_eq]
    rw [e]
    refine ih i hi' Z' ι' β hZ fun t b ht => hι t b ?_
    simp only [AV.free, AV.freeL_eq, List.all_eq_false]
    exact ⟨_, List.getElem_mem hi', by simp [ht]⟩
  | clo Z ι f a c us vs hu hl h1 h2 ih1 ih2 =>
    intro Z' ι' β hZ hι
    have hu' : us.length = (AV.flagL β a).length := by rw [AV.flagL_eq]; simpa using hu
    have hl' : vs.length = (AV.flagL β c).length := by rw [AV.flagL_eq]; simpa using hl
    refine .clo _ _ _ _ _ _ _ hu' hl' (fun i hi => ?_) (fun i hi => ?_)
    · have hi' : i < a.length := by rw [AV.flagL_eq] at hi; simpa using hi
      have e : (AV.flagL β a)[i]'hi = AV.flag β (a[i]'hi') := by simp [AV.flagL_eq]
      rw [e]
      refine ih1 i hi' Z' ι' β hZ fun t b ht => hι t b ?_
      have : AV.freeL t a = false := by
        rw [AV.freeL_eq, List.all_eq_false]
        exact ⟨_, List.getElem_mem hi', by simp [ht]⟩
      simp [AV.free, this]
    · have hi' : i < c.length := by rw [AV.flagL_eq] at hi; simpa using hi
      have e : (AV.flagL β c)[i]'hi = AV.flag β (c[i]'hi') := by simp [AV.flagL_eq]
      rw [e]
      refine ih2 i hi' Z' ι' β hZ fun t b ht => hι t b ?_
      have : AV.freeL t c = false := by
        rw [AV.freeL_eq, List.all_eq_false]
        exact ⟨_, List.getElem_mem hi', by simp [ht]⟩
      simp [AV.free, this]
  | gd Z ι c x v h hu ih => intro Z' ι' β hZ hι; exact .gd _ _ _ _ _ (fun hc => ih hc Z' ι' β hZ fun t b ht => hι t b (by simpa [AV.free] using ht)) hu
  | any Z ι v => intro Z' ι' β _ _; exact .any _ _ _

end Go.AB
