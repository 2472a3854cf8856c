/-
  AB, part 9: contracts of functions, calls, what a function hands back; one state for another.
-/
import Derived.Test.YtpccmcepgllccaaAb8
namespace Go.AB
open Go

/-- blocks that the tags of H name -/
def ownedBy (H : List (Nat × Blk)) (ι : Tags) (b : Nat) : Prop := ∃ t, has t H ∧ ι t = some b

/-- A function that may be called by its number. -/
def callable (P : Program) (f : FuncId) : Prop := ∃ fn, P.funcs[f]? = some fn ∧ fn.body.isNone = false ∧ (fn.name == "runtime.NumGoroutine") = false

def VRs (w : World) (Z : Zone) (ι : Tags) (avs : List AV) (vs : List Value) : Prop := vs.length = avs.length ∧ ∀ i (hi : i < avs.length), ∃ u, vs[i]? = some u ∧ VR w Z ι (avs[i]'hi) u

/-- THE CONTRACT OF A FUNCTION: on arguments that stand for 'avs', with the blocks H handed over, it returns what stands for r, and hands back the blocks H' (those of the tags K stay where they are); nothing else that was there has turned. -/
def Spec (P : Program) (f : FuncId) (K : List Nat) (avs : List AV) (H : List (Nat × Blk)) (r : AV) (H' : List (Nat × Blk)) : Prop :=
  callable P f ∧ ∀ (Zs Zb : Nat → Prop) (ι : Tags) (w : World) (vs : List Value) (N : Nat) (dfr : List Deferred) (ro : Option Nat),
    Core ⟨P, ro, N, dfr, w, Zs, Zb, ownedBy H ι, K, ι⟩ H ι w → VRs w (zone ⟨P, ro, N, dfr, w, Zs, Zb, ownedBy H ι, K, ι⟩ H ι w) ι avs vs →
    CallsIn (Fc none) 0 P f vs.toArray w fun e w' => ∃ v ι', e = .returned v ∧ Core ⟨P, ro, N, dfr, w, Zs, Zb, ownedBy H ι, K, ι⟩ H' ι' w' ∧
      VR w' (zone ⟨P, ro, N, dfr, w, Zs, Zb, ownedBy H ι, K, ι⟩ H' ι' w') ι' r v ∧ ∀ t, t ∈ K → ι' t = ι t

/-- What a function's end hands back, out of its last state. -/
def Res (C : Ctx) (fn : Func) (s : St) (r : AV) (H' : List (Nat × Blk)) : Prop :=
  ∀ ι a w, Rel C s ι a w → ∃ v ι', (results fn a.tmps).run C.P w = .ok v w ∧ a.defers = [] ∧ Core C H' ι' w ∧ VR w (zone C H' ι' w) ι' r v ∧ ∀ t, t ∈ C.K → ι' t = C.ι0 t

def enum {α : Type} : Nat → List α → List (Nat × α)
  | _, [] => []
  | k, a :: l => (k, a) :: enum (k + 1) l
theorem look_enum {α : Type} : ∀ (l : List α) (k d : Nat), look d (enum k l) = if k ≤ d then l[d - k]? else none
  | [], k, d => by simp [enum, look]
  | a :: l, k, d => by
    simp only [enum, look]
    by_cases h : d = k
    · subst h; simp
    · rw [beq_ne h, cond_false, look_enum l (k + 1) d]
      by_cases h1 : k ≤ d
      · rw [if_pos h1, if_pos (by omega), show d - k = (d - (k + 1)) + 1 from by omega, List.getElem?_cons_succ]
      · rw [if_neg h1, if_neg (by omega)]

/-- A contract from the walk of the function's body. -/
theorem Spec.of {P : Program} {f : FuncId} {fn : Func} {c : Code} {K : List Nat} {avs : List AV} {H : List (Nat × Blk)} {r : AV} {H' : List (Nat × Blk)} {N : Nat} (hf : P.funcs[f]? = some fn) (hnt : fn.ntmps = N) (hb : fn.body = some c)
    (hc : (fn.name == "runtime.NumGoroutine") = false) (hN : avs.length ≤ N)
    (h : ∀ w0 Zs Zb T0 ι0, AWP ⟨P, none, N, [], w0, Zs, Zb, T0, K, ι0⟩ c (fun e s' => (e = .ret ∨ e = .normal) ∧ Res ⟨P, none, N, [], w0, Zs, Zb, T0, K, ι0⟩ fn s' r H') ⟨enum 0 avs, H⟩) : Spec P f K avs H r H' := by
  subst hnt
  refine ⟨⟨fn, hf, by simp [hb], hc⟩, fun Zs Zb ι w vs N dfr ro hcore hvs => ?_⟩
  obtain ⟨hl, hv⟩ := hvs
  have hw := h w Zs Zb (ownedBy H ι) ι ι { tmps := vs.toArray ++ Array.replicate (fn.ntmps - vs.toArray.size) undef, defers := [] } w ?_
  · refine callsIn_of_wp hf hb trivial (wpIn_mono hw fun e a' w' ⟨s', ι', r', he, hres⟩ => ?_)
    obtain ⟨v, ι2, q1, q2, q3, q4, q5⟩ := hres ι' a' w' r'
    have : bodyPost P fn (fun e w' => ∃ v ι', e = Ending.returned v ∧ Core ⟨P, ro, N, dfr, w, Zs, Zb, ownedBy H ι, K, ι⟩ H' ι' w' ∧ VR w' (zone ⟨P, ro, N, dfr, w, Zs, Zb, ownedBy H ι, K, ι⟩ H' ι' w') ι' r v ∧ ∀ t, t ∈ K → ι' t = ι t) .normal a' w' :=
      ⟨q2, v, q1, v, ι2, rfl, ⟨q3.blk, q3.inj, q3.own, q3.tr⟩, q4, q5⟩
    rcases he with rfl | rfl
    · exact this
    · exact this
  · refine ⟨by simp [hl]; omega, rfl, ?_, ⟨hcore.blk, hcore.inj, hcore.own, hcore.tr⟩, fun _ _ => rfl⟩
    intro d v hlk
    rw [look_enum] at hlk
    simp only [Nat.zero_le, if_true, Nat.sub_zero] at hlk
    have hd := (List.getElem?_eq_some_iff.1 hlk).1
    obtain ⟨u, hu, hvr⟩ := hv d hd
    have he : avs[d] = v := by rw [List.getElem?_eq_getElem hd] at hlk; exact Option.some.inj hlk
    rw [he] at hvr
    have : (vs.toArray ++ Array.replicate (fn.ntmps - vs.toArray.size) undef).getD d undef = u := by
      rw [Array.getD_eq_getD_getElem?, Array.getElem?_append_left (by simp; omega)]
      simp [hu]
    simp only [this]
    exact hvr

/-- the tags that occur lie in a list -/
def AV.within (ts : List Nat) (v : AV) : Prop := ∀ t, AV.free t v = false → t ∈ ts
mutual
def AV.tags : AV → List Nat
  | .own t _ _ _ => [t]
  | .ptr t _ => [t]
  | .agg cs => AV.tagsL cs
  | .tup cs => AV.tagsL cs
  | .clo _ a b => AV.tagsL a ++ AV.tagsL b
  | .gd _ v => AV.tags v
  | _ => []
def AV.tagsL : List AV → List Nat
  | [] => []
  | a :: l => AV.tags a ++ AV.tagsL l
end
theorem AV.mem_tagsL {t : Nat} : ∀ {l : List AV}, t ∈ AV.tagsL l ↔ ∃ a ∈ l, t ∈ AV.tags a
  | [] => by simp [AV.tagsL]
  | a :: l => by simp [AV.tagsL, AV.mem_tagsL (l := l)]
theorem AV.tags_of_free {t : Nat} {v : AV} : AV.free t v = false → t ∈ AV.tags v := by
  induction v using AV.rec (motive_2 := fun l => AV.freeL t l = false → t ∈ AV.tagsL l) with
  | sc => simp [AV.free]
  | rd => simp [AV.free]
  | rdx => simp [AV.free]
  | own => simp [AV.free, AV.tags]; exact fun h => h.symm
  | ptr => simp [AV.free, AV.tags]; exact fun h => h.symm
  | rptr => simp [AV.free]
  | agg cs ih => simpa [AV.free, AV.tags] using ih
  | tup cs ih => simpa [AV.free, AV.tags] using ih
  | clo f a b iha ihb =>
    simp only [AV.free, AV.tags, Bool.and_eq_false_iff, List.mem_append]
    rintro (h | h)
    · exact .inl (iha h)
    · exact .inr (ihb h)
  | gd c v ih => simpa [AV.free, AV.tags] using ih
  | any => simp [AV.free]
  | nil => rename_i h; simp [AV.freeL] at h
  | cons a l iha ihl =>
    rename_i h
    simp only [AV.freeL, Bool.and_eq_false_iff] at h
    simp only [AV.tagsL, List.mem_append]
    rcases h with h | h
    · exact .inl (iha h)
    · exact .inr (ihl h)

def renB (σ : Nat → Nat) (k : Blk) : Blk := bif k.lst then k else { k with cells := AV.renL σ k.cells }
def renH (σ : Nat → Nat) : List (Nat × Blk) → List (Nat × Blk)
  | [] => []
  | (t, k) :: l => (σ t, renB σ k) :: renH σ l
/-- the blocks of H but for those that are named -/
def minusH (ts : List Nat) : List (Nat × Blk) → List (Nat × Blk)
  | [] => []
  | (t, k) :: l => bif ts.any (Nat.beq t) then minusH ts l else (t, k) :: minusH ts l

/-- a value under tags written anew, read back under the tags of before -/
theorem VR.unren {w : World} {Z : Zone} {σ : Nat → Nat} {v : AV} : ∀ {ι : Tags} {u : Value}, VR w Z ι (v.ren σ) u → VR w Z (fun t => ι (σ t)) v u := by
  induction v using AV.rec (motive_2 := fun l => ∀ {ι : Tags} (us : List Value), (∀ i (hi : i < (AV.renL σ l).length), ∃ u, us[i]? = some u ∧ VR w Z ι ((AV.renL σ l)[i]'hi) u) →
      ∀ i (hi : i < l.length), ∃ u, us[i]? = some u ∧ VR w Z (fun t => ι (σ t)) (l[i]'hi) u) with
  | sc => intro ι u h; cases h; exact .sc _ _ _
  | rd => intro ι u h; exact VR.mono (fun _ _ h => h) h _ _ (fun _ _ h => h) (fun _ _ _ _ _ h => h) (fun t b hf => by simp [AV.ren, AV.free] at hf)
  | rdx => intro ι u h; exact VR.mono (fun _ _ h => h) h _ _ (fun _ _ h => h) (fun _ _ _ _ _ h => h) (fun t b hf => by simp [AV.ren, AV.free] at hf)
  | own =>
    intro ι u h
    cases h with
    | ownnil => exact .ownnil _ _ _ _ _
    | ownz => exact .ownz _ _ _ _ _ _ _
    | own _ _ _ _ _ _ b cap s ht hn hc hs ho => exact .own _ _ _ _ _ _ b cap s ht hn hc hs ho
  | ptr => intro ι u h; cases h; exact .ptr _ _ _ _ _ ‹_›
  | rptr => intro ι u h; exact VR.mono (fun _ _ h => h) h _ _ (fun _ _ h => h) (fun _ _ _ _ _ h => h) (fun t b hf => by simp [AV.ren, AV.free] at hf)
  | agg cs ih =>
    intro ι u h
    cases h with
    | agg _ _ _ vs hl h =>
      have hl' : vs.length = cs.length := by rw [hl, AV.renL_eq]; simp
      refine .agg _ _ _ _ hl' fun i hi => ?_
      obtain ⟨y, hy, hv⟩ := ih vs (fun i hi => ⟨_, List.getElem?_eq_getElem (hl ▸ hi), h i hi⟩) i hi
      rw [List.getElem?_eq_getElem (hl' ▸ hi)] at hy
      rw [Option.some.inj hy]; exact hv
  | tup cs ih =>
    intro ι u h
    cases h with
    | tup _ _ _ vs hl h =>
      have hl' : vs.length = cs.length := by rw [hl, AV.renL_eq]; simp
      refine .tup _ _ _ _ hl' fun i hi => ?_
      obtain ⟨y, hy, hv⟩ := ih vs (fun i hi => ⟨_, List.getElem?_eq_getElem (hl ▸ hi), h i hi⟩) i hi
      rw [List.getElem?_eq_getElem (hl' ▸ hi)] at hy
      rw [Option.some.inj hy]; exact hv
  | clo f a b iha ihb =>
    intro ι u h
    cases h with
    | clo _ _ _ _ _ us vs hu hl h1 h2 =>
      have hu' : us.length = a.length := by rw [hu, AV.renL_eq]; simp
      have hl' : vs.length = b.length := by rw [hl, AV.renL_eq]; simp
      refine .clo _ _ _ _ _ _ _ hu' hl' (fun i hi => ?_) (fun i hi => ?_)
      · obtain ⟨y, hy, hv⟩ := iha us (fun i hi => ⟨_, List.getElem?_eq_getElem (hu ▸ hi), h1 i hi⟩) i hi
        rw [List.getElem?_eq_getElem (hu' ▸ hi)] at hy
        rw [Option.some.inj hy]; exact hv
      · obtain ⟨y, hy, hv⟩ := ihb vs (fun i hi => ⟨_, List.getElem?_eq_getElem (hl ▸ hi), h2 i hi⟩) i hi
        rw [List.getElem?_eq_getElem (hl' ▸ hi)] at hy
        rw [Option.some.inj hy]; exact hv
  | gd c v ih => intro ι u h; cases h with | gd _ _ _ _ _ h hu => exact .gd _ _ _ _ _ (fun hc => ih (h hc)) hu
  | any => intro ι u _; exact .any _ _ _
  | nil => rename_i ι us h i hi; exact absurd hi (by simp)
  | cons a l iha ihl =>
    rename_i ι us h i hi
    have hsz : (AV.renL σ (a :: l)).length = l.length + 1 := by rw [AV.renL_eq]; simp
    cases i with
    | zero =>
      obtain ⟨u, hu, hv⟩ := h 0 (by omega)
      exact ⟨u, hu, iha (by simpa [AV.renL] using hv)⟩
    | succ i =>
      cases us with
      | nil => obtain ⟨u, hu, _⟩ := h 0 (by omega); simp at hu
      | cons u0 us =>
        obtain ⟨u, hu, hv⟩ := ihl us (fun j hj => by
          obtain ⟨u, hu, hv⟩ := h (j + 1) (by simp [AV.renL]; omega)
          exact ⟨u, by simpa using hu, by simpa [AV.renL] using hv⟩) i (by simp at hi; omega)
        exact ⟨u, by simpa using hu, by simpa using hv⟩
/-- and forth -/
theorem VR.renamed {w : World} {σ : Nat → Nat} {v : AV} : ∀ {Z : Zone} {ι ι' : Tags} {u : Value}, VR w Z ι v u → (∀ t b, t ∈ AV.tags v → ι t = some b → ι' (σ t) = some b) → VR w Z ι' (v.ren σ) u := by
  induction v using AV.rec (motive_2 := fun l => ∀ {Z : Zone} {ι ι' : Tags} (us : List Value), (∀ i (hi : i < l.length), ∃ u, us[i]? = some u ∧ VR w Z ι (l[i]'hi) u) →
      (∀ t b, t ∈ AV.tagsL l → ι t = some b → ι' (σ t) = some b) → ∀ i (hi : i < (AV.renL σ l).length), ∃ u, us[i]? = some u ∧ VR w Z ι' ((AV.renL σ l)[i]'hi) u) with
  | sc => intro Z ι ι' u h _; cases h; exact .sc _ _ _
  | rd => intro Z ι ι' u h _; exact VR.mono (fun _ _ h => h) h _ _ (fun _ _ h => h) (fun _ _ _ _ _ h => h) (fun t b hf => by simp [AV.free] at hf)
  | rdx => intro Z ι ι' u h _; exact VR.mono (fun _ _ h => h) h _ _ (fun _ _ h => h) (fun _ _ _ _ _ h => h) (fun t b hf => by simp [AV.free] at hf)
  | own =>
    intro Z ι ι' u h hι
    cases h with
    | ownnil => exact .ownnil _ _ _ _ _
    | ownz => exact .ownz _ _ _ _ _ _ _
    | own _ _ _ _ _ _ b cap s ht hn hc hs ho => exact .own _ _ _ _ _ _ b cap s (hι _ _ (by simp [AV.tags]) ht) hn hc hs ho
  | ptr => intro Z ι ι' u h hι; cases h; exact .ptr _ _ _ _ _ (hι _ _ (by simp [AV.tags]) ‹_›)
  | rptr => intro Z ι ι' u h _; exact VR.mono (fun _ _ h => h) h _ _ (fun _ _ h => h) (fun _ _ _ _ _ h => h) (fun t b hf => by simp [AV.free] at hf)
  | agg cs ih =>
    intro Z ι ι' u h hι
    cases h with
    | agg _ _ _ vs hl h =>
      have hl' : vs.length = (AV.renL σ cs).length := by rw [hl, AV.renL_eq]; simp
      refine .agg _ _ _ _ hl' fun i hi => ?_
      obtain ⟨y, hy, hv⟩ := ih vs (fun i hi => ⟨_, List.getElem?_eq_getElem (hl ▸ hi), h i hi⟩) (fun t b ht => hι t b (by simpa [AV.tags] using ht)) i hi
      rw [List.getElem?_eq_getElem (hl' ▸ hi)] at hy
      rw [Option.some.inj hy]; exact hv
  | tup cs ih =>
    intro Z ι ι' u h hι
    cases h with
    | tup _ _ _ vs hl h =>
      have hl' : vs.length = (AV.renL σ cs).length := by rw [hl, AV.renL_eq]; simp
      refine .tup _ _ _ _ hl' fun i hi => ?_
      obtain ⟨y, hy, hv⟩ := ih vs (fun i hi => ⟨_, List.getElem?_eq_getElem (hl ▸ hi), h i hi⟩) (fun t b ht => hι t b (by simpa [AV.tags] using ht)) i hi
      rw [List.getElem?_eq_getElem (hl' ▸ hi)] at hy
      rw [Option.some.inj hy]; exact hv
  | clo f a b iha ihb =>
    intro Z ι ι' u h hι
    cases h with
    | clo _ _ _ _ _ us vs hu hl h1 h2 =>
      have hu' : us.length = (AV.renL σ a).length := by rw [hu, AV.renL_eq]; simp
      have hl' : vs.length = (AV.renL σ b).length := by rw [hl, AV.renL_eq]; simp
      refine .clo _ _ _ _ _ _ _ hu' hl' (fun i hi => ?_) (fun i hi => ?_)
      · obtain ⟨y, hy, hv⟩ := iha us (fun i hi => ⟨_, List.getElem?_eq_getElem (hu ▸ hi), h1 i hi⟩) (fun t b ht => hι t b (by simp [AV.tags, ht])) i hi
        rw [List.getElem?_eq_getElem (hu' ▸ hi)] at hy
        rw [Option.some.inj hy]; exact hv
      · obtain ⟨y, hy, hv⟩ := ihb vs (fun i hi => ⟨_, List.getElem?_eq_getElem (hl ▸ hi), h2 i hi⟩) (fun t b ht => hι t b (by simp [AV.tags, ht])) i hi
        rw [List.getElem?_eq_getElem (hl' ▸ hi)] at hy
        rw [Option.some.inj hy]; exact hv
  | gd c v ih => intro Z ι ι' u h hι; cases h with | gd _ _ _ _ _ h hu => exact .gd _ _ _ _ _ (fun hc => ih (h hc) (fun t b ht => hι t b (by simpa [AV.tags] using ht))) hu
  | any => intro Z ι ι' u _ _; exact .any _ _ _
  | nil => rename_i Z ι ι' us h hι i hi; exact absurd hi (by simp [AV.renL])
  | cons a l iha ihl =>
    rename_i Z ι ι' us h hι i hi
    cases i with
    | zero =>
      obtain ⟨u, hu, hv⟩ := h 0 (by simp)
      refine ⟨u, hu, ?_⟩
      simp only [AV.renL, List.getElem_cons_zero]
      exact iha hv (fun t b ht => hι t b (by simp [AV.tagsL, ht]))
    | succ i =>
      cases us with
      | nil => obtain ⟨u, hu, _⟩ := h 0 (by simp); simp at hu
      | cons u0 us =>
        obtain ⟨u, hu, hv⟩ := ihl us (fun j hj => by
          obtain ⟨u, hu, hv⟩ := h (j + 1) (by simp; omega)
          exact ⟨u, by simpa using hu, by simpa using hv⟩) (fun t b ht => hι t b (by simp [AV.tagsL, ht])) i (by simp [AV.renL] at hi; omega)
        exact ⟨u, by simpa using hu, by simpa [AV.renL] using hv⟩
end Go.AB
