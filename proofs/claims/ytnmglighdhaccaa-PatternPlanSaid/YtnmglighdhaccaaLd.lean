import Derived.Test.YtnmglighdhaccaaLc
set_option linter.unusedVariables false
namespace Go.AB
open Go
def demP (p : R23) (i : Nat) : Int := p.Dq.getD i 0
def downs (lo : Int) : Nat → Int → List Int
  | 0,_ => []
  | m + 1,hi => if lo ≤ hi then hi :: downs lo m (hi - 1) else []
theorem mem_downs {lo : Int} : ∀ {m : Nat} {hi k : Int},hi - lo < (m : Int) → (k ∈ downs lo m hi ↔ lo ≤ k ∧ k ≤ hi)
  | 0,hi,k,h => by simp [downs]; omega
  | m + 1,hi,k,h => by
    unfold downs
    by_cases h1 : lo ≤ hi
    · rw [if_pos h1,List.mem_cons,mem_downs (by omega)]; omega
    · rw [if_neg h1]; simp; omega
def topK (p : R23) (i : Nat) (left : Int) : Int := min (demP p i) (left / szP p i)
def lowK (must : Int) (i : Nat) : Int := if (i : Int) = must then 1 else 0
def ext (p : R23) (must : Int) : Nat → Nat → Int → List (List Int)
  | 0,_,_ => [[]]
  | m + 1,i,left => (downs (lowK must i) 1002 (topK p i left)).flatMap fun k => (ext p must m (i + 1) (left - k * szP p i)).map (k :: ·)
def latS (p : R23) (i : Nat) : Nat → Int
  | 0 => 0
  | m + 1 => latS p (i + 1) m + demP p i * szP p i
def restE (p : R23) : List Int → Nat → Int → Int
  | [],_,left => left
  | k :: s,i,left => restE p s (i + 1) (left - k * szP p i)
def needE (p : R23) : List Int → Nat → Int → Int
  | [],_,need => need
  | k :: s,i,need => needE p s (i + 1) (if k < demP p i then min need (szP p i) else need)
def okE (p : R23) (i : Nat) (left need : Int) (s : List Int) : Bool := decide (restE p s i left < needE p s i need)
theorem needE_le {p : R23} : ∀ (s : List Int) (i : Nat) (need : Int),needE p s i need ≤ need
  | [],_,_ => Int.le_refl _
  | k :: s,i,need => by
    have := needE_le (p := p) s (i + 1) (if k < demP p i then min need (szP p i) else need)
    rw [needE]
    split at this <;> rename_i h
    · rw [if_pos h]; omega
    · rw [if_neg h]; omega
theorem Vp.dem {p : R23} (h : Vp p) {i : Nat} (hi : i < p.Lq.length) : 0 ≤ demP p i ∧ demP p i ≤ 1000 := (h.li i hi).2.2.2
theorem rest_lat {p : R23} (h : Vp p) {must : Int} : ∀ {m i : Nat} {left : Int} {s : List Int},i + m ≤ p.Lq.length → s ∈ ext p must m i left → left - latS p i m ≤ restE p s i left
  | 0,i,left,s,_,hs => by simp [ext] at hs; subst hs; simp [latS,restE]
  | m + 1,i,left,s,him,hs => by
    simp only [ext,List.mem_flatMap,List.mem_map] at hs
    obtain ⟨k,hk,s',hs',rfl⟩ := hs
    have h1 := rest_lat h (by omega) hs'
    have hil : i < p.Lq.length := by omega
    have hd := h.dem hil
    have hz := h.sz hil
    have := h.k1
    rw [restE,latS]
    have hk2 : k ≤ demP p i := by
      have := mem_downs (lo := lowK must i) (m := 1002) (hi := topK p i left) (k := k) (by unfold topK lowK; split <;> omega)
      have := (this.1 hk).2
      unfold topK at this
      omega
    have : k * szP p i ≤ demP p i * szP p i := Int.mul_le_mul_of_nonneg_right hk2 (by omega)
    omega
theorem pruned {p : R23} (h : Vp p) {must : Int} {m i : Nat} {left need : Int} (him : i + m ≤ p.Lq.length) (hp : need ≤ left - latS p i m) : (ext p must m i left).filter (okE p i left need) = [] := by
  rw [List.filter_eq_nil_iff]
  intro s hs
  have h1 := rest_lat h him hs
  have h2 := needE_le (p := p) s i need
  unfold okE
  rw [decide_eq_true_eq]
  omega
theorem filter_succ {p : R23} {must : Int} {m i : Nat} {left need : Int} : (ext p must (m + 1) i left).filter (okE p i left need) =
    (downs (lowK must i) 1002 (topK p i left)).flatMap fun k => ((ext p must m (i + 1) (left - k * szP p i)).filter (okE p (i + 1) (left - k * szP p i) (if k < demP p i then min need (szP p i) else need))).map (k :: ·) := by
  rw [ext,List.filter_flatMap]
  congr 1
  funext k
  rw [List.filter_map]
  rfl
end Go.AB
