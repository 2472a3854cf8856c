import Derived.Test.YtiginjokbkemcaaGreatLf
set_option linter.unusedVariables false
namespace Go.AB
open Go
def minAt (P : R24) (last : Int) (l : List Int) : Nat → Nat
  | 0 => 0
  | i + 1 => if D P last (l.getD i 0) < D P last (l.getD (minAt P last l i) 0) then i else minAt P last l i
theorem minAt_lt {P : R24} {last : Int} {l : List Int} : ∀ {i : Nat},0 < i → minAt P last l i < i
  | 1,_ => by simp [minAt]
  | i + 2,_ => by
    have := minAt_lt (P := P) (last := last) (l := l) (i := i + 1) (by omega)
    rw [minAt]
    split <;> omega
theorem minAt_one {P : R24} {last : Int} {l : List Int} : minAt P last l 1 = 0 := by simp [minAt]
theorem getD_at {l : List Int} {k : Nat} (h : k < l.length) : getIdx l (k : Int) = some (l.getD k 0) := by
  refine getIdx_q (k := k) rfl ?_
  rw [List.getD_eq_getElem?_getD,List.getElem?_eq_getElem h]; rfl
theorem getD_mem {l : List Int} {k : Nat} (h : k < l.length) : l.getD k 0 ∈ l := by
  rw [List.getD_eq_getElem?_getD,List.getElem?_eq_getElem h]
  exact List.getElem_mem h
theorem m47_val {n : Nat} {P : R24} {i j last : Int} (hV : VecP P) (hi : inN P i) (hj : inN P j) (hl : inN P last) : m47 n i j P.Pq P.Bq last = some (D P last i - D P last j) := by
  have h1 := D_bd hV last i
  have h2 := D_bd hV last j
  unfold m47
  rw [eta24,m48_val hV hl hi,oB,m48_val hV hl hj,oB,letM_eq,wrap64 (by omega) (by omega)]
theorem m46_val {n : Nat} {P : R24} {l : List Int} {last : Int} (hV : VecP P) (hI : InP P l) (hl : inN P last) (h0 : 0 < l.length) (hb : l.length ≤ 1000) (hn : 2000 < n) :
    m46 n l P.Pq P.Bq last = some (l.getD (minAt P last l l.length) 0) := by
  unfold m46
  rw [if_neg (by simp; omega),show getIdx l (0 : Int) = some (l.getD 0 0) from getD_at h0,oB,jn]
  have := loop_cntA (fun i => (l.getD (minAt P last l i) 0,(i : Int))) 1 l.length (some (l.getD (minAt P last l l.length) 0)) h0 (fun i h1 hi nx => ?_) (fun nx => ?_) (n := n) (body := m46_L1 n l P.Pq P.Bq last fun p => some p) (by omega)
  · rw [minAt_one] at this
    exact this
  · have hm := minAt_lt (P := P) (last := last) (l := l) h1
    rw [m46_L1,if_pos (by simp; omega),getD_at hi,oB,m47_val hV (hI _ (getD_mem hi)) (hI _ (getD_mem (by omega))) hl,oB]
    dsimp only [jn,letM]
    rw [wInc (by omega),minAt]
    by_cases hc : D P last (l.getD i 0) < D P last (l.getD (minAt P last l i) 0)
    · rw [if_pos (decide_eq_true (by omega)),oB,if_pos hc]
    · rw [if_neg (by rw [decide_eq_true_eq]; omega),if_neg hc]
  · rw [m46_L1,if_neg (by simp)]
def near (P : R24) : Nat → List Int → List Int
  | 0,path => path
  | k + 1,path => near P k (path ++ [(rd P path).getD (minAt P (lastP path) (rd P path) (rd P path).length) 0])
theorem lastP_snoc {l : List Int} {x : Int} : lastP (l ++ [x]) = x := by unfold lastP; simp
theorem m40x1_L1_val {N : Nat} {P : R24} (hg : Good P) (hN : 2000 < N) {K : Int × List Int → Option (List Int × Bool × Int)} : ∀ (k : Nat) (path : List Int) (n : Nat),InP P path → (0 : Int) ∈ path → path.length + k = P.Pq.length → k < n →
    loopM (m40x1_L1 N P P.Pq P.Bq K) n (lastP path,path) = K (lastP (near P k path),near P k path)
  | 0,path,n + 1,hI,h0,h,_ => by
    rw [loopM_succ,m40x1_L1,if_neg (by simp; omega)]; rfl
  | k + 1,path,n + 1,hI,h0,h,hn => by
    have hP1 := hg.few.1
    have hp : 0 < path.length := List.length_pos_of_mem h0
    have hrl := rd_len (P := P) (path := path)
    have hne := List.length_pos_iff.2 (hg.next h0 (by omega))
    have hm := minAt_lt (P := P) (last := lastP path) (l := rd P path) hne
    rw [loopM_succ,m40x1_L1,if_pos (by simp; omega),eta24,m54_val hg.few hg.inb hI (by omega) hN,oB,if_neg (by rw [decide_eq_true_eq]; omega)]
    unfold m45
    dsimp only
    rw [m46_val hg.vec rd_in (hI _ (lastP_mem hp)) hne (by omega) hN,oB,oB]
    rw [apd_val (by simp; omega),oB]
    have := m40x1_L1_val hg hN (K := K) k (path ++ [(rd P path).getD (minAt P (lastP path) (rd P path) (rd P path).length) 0]) n (hI.snoc (rd_in _ (getD_mem hm))) (by simp [h0]) (by simp; omega) (by omega)
    rw [lastP_snoc] at this
    rw [near]
    exact this
def revL (l : List Int) (i j : Nat) : List Int := frow l.length fun p => if i ≤ p ∧ p ≤ j then l.getD (i + j - p) 0 else l.getD p 0
theorem frow_id {l : List Int} : l = frow l.length fun p => l.getD p 0 := by
  refine ext_at (l := l) (n := l.length) (f := fun p => l.getD p 0) rfl fun i hi => ?_
  rw [List.getD_eq_getElem?_getD,List.getElem?_eq_getElem hi]; rfl
theorem revL_len {l : List Int} {i j : Nat} : (revL l i j).length = l.length := frow_len
theorem revL_in {P : R24} {l : List Int} {i j : Nat} (hI : InP P l) (hj : j < l.length) : InP P (revL l i j) := fun x hx => by
  unfold revL frow at hx
  obtain ⟨p,hp,rfl⟩ := List.mem_map.1 hx
  have := List.mem_range.1 hp
  split
  · exact hI _ (getD_mem (by omega))
  · exact hI _ (getD_mem this)
def revA (l : List Int) (i j a : Nat) : List Int := frow l.length fun p => if (i ≤ p ∧ p < i + a) ∨ (j < p + a ∧ p ≤ j) then l.getD (i + j - p) 0 else l.getD p 0
theorem frow_nat {α : Type} {N : Nat} {g : Nat → α} {k : Nat} (h : k < N) : getIdx (frow N g) (k : Int) = some (g k) := by
  rw [frow_at (by omega) (by omega),Int.toNat_natCast]
theorem frow_setN {α : Type} {N : Nat} {g : Nat → α} {k : Nat} {v : α} (h : k < N) : setIdx (frow N g) (k : Int) v = some (frow N fun j => if j = k then v else g j) := by
  rw [frow_set (by omega) (by omega),Int.toNat_natCast]
theorem m76_val {n : Nat} {l : List Int} {i j : Nat} (hij : i < j) (hj : j < l.length) (hl : l.length ≤ 1000) (hn : 2000 < n) : m76 n l (j + 1 - i) i = some (revL l i j) := by
  unfold m76
  dsimp only [letM,jn]
  rw [wrap64 (by omega) (by omega)]
  have hst : ((0 : Int),((((j + 1 - i : Nat) : Nat) : Int) - 1),l) = (((0 : Nat) : Int),((j - i - 0 : Nat) : Int),revA l i j 0) := by
    have e1 : (((j + 1 - i : Nat) : Nat) : Int) - 1 = ((j - i - 0 : Nat) : Int) := by omega
    have e2 : revA l i j 0 = l := by
      unfold revA
      conv => rhs; rw [frow_id (l := l)]
      refine frow_congr fun p hp => ?_
      rw [if_neg (by omega)]
    rw [e1,e2]; rfl
  refine loop_run (n := n) (fun a => ((a : Int),((j - i - a : Nat) : Int),revA l i j a)) ((j + 1 - i) / 2) _ hst (fun a ha nx => ?_) (fun nx => ?_) (by omega)
  · have g1 : ∀ (xs : List Int) (k : Nat),k < j + 1 - i → gip xs i (j + 1 - i) (k : Int) = getIdx xs ((i + k : Nat) : Int) := fun xs k hk => by
      unfold gip
      rw [if_pos (by omega),Int.toNat_natCast]
    have hb : (revA l i j a).length = l.length := frow_len
    rw [m76_L1,if_pos (by simp; omega)]
    dsimp only
    rw [g1 _ _ (by omega),g1 _ _ (by omega)]
    unfold revA
    rw [frow_nat (by omega),oB,frow_nat (by omega),oB,oB,Int.toNat_natCast,frow_setN (by omega),oB,g1 _ _ (by omega),frow_nat (by omega),oB,Int.toNat_natCast,frow_setN (by omega),oB]
    dsimp only [letM]
    rw [wInc (by omega),wDec (by omega) (by omega)]
    congr 1
    refine Prod.ext rfl (Prod.ext (by show ((j - i - a - 1 : Nat) : Int) = ((j - i - (a + 1) : Nat) : Int); omega) ?_)
    refine frow_congr fun p hp => ?_
    rw [if_neg (show ¬ ((i ≤ i + (j - i - a) ∧ i + (j - i - a) < i + a) ∨ (j < i + (j - i - a) + a ∧ i + (j - i - a) ≤ j)) from by omega),if_neg (show ¬ ((i ≤ i + a ∧ i + a < i + a) ∨ (j < i + a + a ∧ i + a ≤ j)) from by omega)]
    by_cases e1 : p = i + (j - i - a)
    · rw [if_pos e1,if_pos (by omega)]
      congr 1; omega
    · rw [if_neg e1]
      by_cases e2 : p = i + a
      · rw [if_pos e2,if_pos (by omega)]
        congr 1; omega
      · rw [if_neg e2]
        by_cases e3 : (i ≤ p ∧ p < i + a) ∨ (j < p + a ∧ p ≤ j)
        · rw [if_pos e3,if_pos (by omega)]
        · rw [if_neg e3,if_neg (by omega)]
  · rw [m76_L1,if_neg (by simp; omega)]
    congr 1
    unfold revA revL
    refine frow_congr fun p hp => ?_
    by_cases e : i ≤ p ∧ p ≤ j
    · rw [if_pos e]
      by_cases e3 : (i ≤ p ∧ p < i + (j + 1 - i) / 2) ∨ (j < p + (j + 1 - i) / 2 ∧ p ≤ j)
      · rw [if_pos e3]
      · rw [if_neg e3]
        congr 1; omega
    · rw [if_neg e,if_neg (by omega)]
def findJ (q : Nat → Bool) : Nat → Nat → Option Nat
  | 0,_ => none
  | k + 1,j => if q j = true then some j else findJ q k (j + 1)
def findI (q : Nat → Nat → Bool) (len : Nat) : Nat → Nat → Option (Nat × Nat)
  | 0,_ => none
  | k + 1,i => match findJ (q i) (len - (i + 1)) (i + 1) with
    | some j => some (i,j)
    | none => findI q len k (i + 1)
theorem findJ_some {q : Nat → Bool} : ∀ {k j x : Nat},findJ q k j = some x → j ≤ x ∧ x < j + k ∧ q x = true
  | k + 1,j,x,h => by
    unfold findJ at h
    split at h
    · cases h
      exact ⟨Nat.le_refl _,by omega,by assumption⟩
    · have := findJ_some h
      exact ⟨by omega,by omega,this.2.2⟩
theorem findI_some {q : Nat → Nat → Bool} {len : Nat} : ∀ {k i : Nat} {x : Nat × Nat},findI q len k i = some x → i ≤ x.1 ∧ x.1 < x.2 ∧ x.2 < len ∧ q x.1 x.2 = true
  | k + 1,i,x,h => by
    unfold findI at h
    cases e : findJ (q i) (len - (i + 1)) (i + 1) with
    | some j =>
      rw [e] at h
      cases h
      have := findJ_some e
      exact ⟨Nat.le_refl _,by dsimp only; omega,by dsimp only; omega,this.2.2⟩
    | none =>
      rw [e] at h
      have := findI_some (k := k) h
      exact ⟨by omega,this.2⟩
theorem loopJ {R : Type} {body : (Int → Option R) → Int → Option R} {q : Nat → Bool} {len : Nat} {stop : Nat → Option R} {K : Option R} {lo : Nat}
    (go : ∀ j,lo ≤ j → j < len → ∀ nx,body nx (j : Int) = if q j = true then stop j else nx ((j + 1 : Nat) : Int)) (fin : ∀ j,len ≤ j → ∀ nx,body nx (j : Int) = K) : ∀ (k j m : Nat),lo ≤ j → k = len - j → k < m →
    loopM body m (j : Int) = match findJ q k j with
      | some x => stop x
      | none => K
  | 0,j,m + 1,hl,hk,hm => by
    rw [loopM_succ,fin j (by omega)]; rfl
  | k + 1,j,m + 1,hl,hk,hm => by
    rw [loopM_succ,go j hl (by omega)]
    unfold findJ
    by_cases h : q j = true
    · rw [if_pos h,if_pos h]
    · rw [if_neg h,if_neg h]
      exact loopJ go fin k (j + 1) m (by omega) (by omega) (by omega)
theorem loopI {R : Type} {body : (Int → Option R) → Int → Option R} {q : Nat → Nat → Bool} {len : Nat} {stop : Nat → Nat → Option R} {K : Option R}
    (go : ∀ i,0 < i → i < len → ∀ nx,body nx (i : Int) = match findJ (q i) (len - (i + 1)) (i + 1) with | some j => stop i j | none => nx ((i + 1 : Nat) : Int)) (fin : ∀ i,len ≤ i → ∀ nx,body nx (i : Int) = K) : ∀ (k i m : Nat),0 < i → k = len - i → k < m →
    loopM body m (i : Int) = match findI q len k i with
      | some x => stop x.1 x.2
      | none => K
  | 0,i,m + 1,h0,hk,hm => by
    rw [loopM_succ,fin i (by omega)]; rfl
  | k + 1,i,m + 1,h0,hk,hm => by
    rw [loopM_succ,go i h0 (by omega)]
    unfold findI
    cases e : findJ (q i) (len - (i + 1)) (i + 1) with
    | some j => rfl
    | none => exact loopI go fin k (i + 1) m (by omega) (by omega) (by omega)
def betterQ (P : R24) (l : List Int) (i j : Nat) : Bool := decide (tourL P (revL l i j) < tourL P l) && permB P (revL l i j)
def betterS (P : R24) (l : List Int) : Option (Nat × Nat) := findI (betterQ P l) l.length (l.length - 1) 1
theorem m43o_val {n : Nat} {l : List Int} (hl : l.length ≤ 1000000) : m43o n l = some l := by
  unfold m43o
  rw [apd_val (by simp; omega),oB]; rfl
theorem m43_val {n : Nat} {l : List Int} (hl : l.length ≤ 1000000) : m43 n l = some l := by
  unfold m43
  rw [apd_val (by simp; omega),oB]; rfl
theorem m44_val {n : Nat} {P : R24} {l : List Int} (hg : Good P) (hI : InP P l) (hl : l.length = P.Pq.length) (hn : 2000 < n) :
    m44 n P l = some (match betterS P l with | some x => (revL l x.1 x.2,true) | none => (l,false)) := by
  have hP1 := hg.few.1
  have h1 := hg.one
  unfold m44
  rw [eta24,m19_val hg.vec hI (by omega) (by omega) hn,oB,jn]
  have := loopI (body := m44_L2 n P l (tourL P l) fun _ => some (l,false)) (q := betterQ P l) (len := l.length) (stop := fun i j => some (revL l i j,true)) (K := some (l,false)) (fun i h0 hi nx => ?_) (fun i hi nx => ?_) (l.length - 1) 1 n (by omega) rfl (by omega)
  · rw [show ((1 : Nat) : Int) = 1 from rfl] at this
    rw [this]
    unfold betterS
    cases findI (betterQ P l) l.length (l.length - 1) 1 <;> rfl
  · rw [m44_L2,if_pos (by simp; omega)]
    dsimp only [letM,jn]
    rw [wInc (by omega)]
    refine loopJ (lo := i + 1) (body := m44_L3 n P l (tourL P l) (i : Int) fun _ => nx ((i + 1 : Nat) : Int)) (q := betterQ P l i) (len := l.length) (stop := fun j => some (revL l i j,true)) (K := nx ((i + 1 : Nat) : Int)) ?_ ?_ (l.length - (i + 1)) (i + 1) n (Nat.le_refl _) rfl (by omega) |>.trans ?_
    · intro j hij hj nx2
      · have hrl := revL_len (l := l) (i := i) (j := j)
        rw [m44_L3,if_pos (by simp; omega),m43o_val (by omega),oB]
        rw [wInc (by omega),slc_val (i := i) (j := j + 1) rfl rfl (by omega) (by omega),oB]
        have e1 : (((j + 1 : Nat) : Int)).toNat - ((i : Int)).toNat = j + 1 - i := by omega
        have e2 : 0 + ((i : Int)).toNat * 1 = i := by omega
        rw [e1,e2,m76_val hij hj (by omega) hn,oB]
        unfold asrt
        rw [if_pos hrl.symm,eta24,m19_val hg.vec (revL_in hI hj) (by omega) (by omega) hn,oB,m42_val hg hn]
        unfold betterQ
        by_cases hc : tourL P (revL l i j) < tourL P l
        · rw [decide_eq_true hc,gdO_true,oB]
          rfl
        · rw [decide_eq_false hc,gdO_false,oB]
          rfl
    · intro j hj nx2
      rw [m44_L3,if_neg (by simp; omega)]
    · cases findJ (betterQ P l i) (l.length - (i + 1)) (i + 1) <;> rfl
  · rw [m44_L2,if_neg (by simp; omega)]
def impS (P : R24) : Nat → List Int → List Int
  | 0,l => l
  | k + 1,l => match betterS P l with
    | some x => impS P k (revL l x.1 x.2)
    | none => l
theorem permB_iff {P : R24} {l : List Int} : permB P l = true ↔ l.length = P.Pq.length ∧ Path P l := by
  unfold permB
  rw [Bool.and_eq_true,decide_eq_true_eq,pathB_iff]
theorem betterS_some {P : R24} {l : List Int} {x : Nat × Nat} (h : betterS P l = some x) : x.1 < x.2 ∧ x.2 < l.length ∧ tourL P (revL l x.1 x.2) < tourL P l ∧ permB P (revL l x.1 x.2) = true := by
  have := findI_some h
  have h4 := this.2.2.2
  unfold betterQ at h4
  rw [Bool.and_eq_true,decide_eq_true_eq] at h4
  exact ⟨this.2.1,this.2.2.1,h4⟩
theorem m17_L1_val {N : Nat} {P : R24} (hg : Good P) (hN : 2000 < N) {K : List Int → Option (List Int × Int)} : ∀ (k : Nat) (l : List Int) (n : Nat),permB P l = true → tourL P l < k → k + 1 < n → loopM (m17_L1 N P K) n (l,true) = K (impS P k l)
  | 0,l,n,hp,ht,hn => by
    have := (tour_bd hg.vec l).1
    omega
  | k + 1,l,n + 2,hp,ht,hn => by
    obtain ⟨hl,hpa⟩ := permB_iff.1 hp
    rw [loopM_succ,m17_L1,if_pos rfl,eta24,m44_val hg (hpa.inP hg) hl hN,oB,impS]
    cases e : betterS P l with
    | some x =>
      obtain ⟨h1,h2,h3,h4⟩ := betterS_some e
      show loopM (m17_L1 N P K) (n + 1) (revL l x.1 x.2,true) = K (impS P k (revL l x.1 x.2))
      exact m17_L1_val hg hN k _ (n + 1) h4 (by omega) (by omega)
    | none =>
      dsimp only
      rw [loopM_succ,m17_L1,if_neg (by simp)]
theorem impS_ok {P : R24} : ∀ (k : Nat) (l : List Int),permB P l = true → permB P (impS P k l) = true ∧ tourL P (impS P k l) ≤ tourL P l
  | 0,l,hp => ⟨hp,Int.le_refl _⟩
  | k + 1,l,hp => by
    rw [impS]
    cases e : betterS P l with
    | some x =>
      obtain ⟨h1,h2,h3,h4⟩ := betterS_some e
      have := impS_ok (P := P) k _ h4
      exact ⟨this.1,by have := this.2; dsimp only; omega⟩
    | none => exact ⟨hp,Int.le_refl _⟩
def improveS (P : R24) (l : List Int) : List Int × Int := if vP P = false then ([],1) else if permB P l = false then ([],22) else (impS P 180000 l,0)
theorem m17_val {P : R24} {l : List Int} (h9 : P.Pq.length ≤ 9) : m17 200000 P l = some (improveS P l) := by
  unfold m17 improveS
  rw [eta24,m16_val (by omega),oB]
  cases hv : vP P with
  | false => rfl
  | true =>
    have hg := good_of hv
    rw [if_neg (show ¬ (!true) = true by simp),if_neg (show ¬ true = false by simp),m42_val hg (by omega),oB]
    cases hp : permB P l with
    | false => rfl
    | true =>
      obtain ⟨hl,hpa⟩ := permB_iff.1 hp
      have ht := (tour_bd hg.vec l).2
      rw [if_neg (show ¬ (!true) = true by simp),if_neg (show ¬ true = false by simp),m43_val (by omega),oB,jn]
      exact m17_L1_val hg (by omega) (K := fun p => some (p,0)) 180000 l 200000 hp (by omega) (by omega)
def lengthS (P : R24) (l : List Int) : Int × Int := if vP P = false then (0,1) else if permB P l = false then (0,22) else (tourL P l,0)
theorem m28_val {n : Nat} {P : R24} {l : List Int} (hn : 2000 < n) : m28 n P l = some (lengthS P l) := by
  unfold m28 lengthS
  rw [eta24,m16_val hn,oB]
  cases hv : vP P with
  | false => rfl
  | true =>
    have hg := good_of hv
    rw [if_neg (show ¬ (!true) = true by simp),if_neg (show ¬ true = false by simp),m42_val hg hn,oB]
    cases hp : permB P l with
    | false => rfl
    | true =>
      obtain ⟨hl,hpa⟩ := permB_iff.1 hp
      have := hg.few.1
      rw [if_neg (show ¬ (!true) = true by simp),if_neg (show ¬ true = false by simp),m19_val hg.vec (hpa.inP hg) hpa.pos (by omega) hn,oB]
theorem m26_val {n : Nat} {P : R24} {l : List Int} (hn : 2000 < n) : m26 n P l = some (lengthS P l) := by
  unfold m26 lengthS
  rw [eta24,m8_val hn,oB]
  cases hv : vP P with
  | false => rfl
  | true =>
    have hg := good_of hv
    rw [if_neg (show ¬ (!true) = true by simp),if_neg (show ¬ true = false by simp),m58_val hg.few hg.one hn,oB]
    cases hp : permB P l with
    | false => rfl
    | true =>
      obtain ⟨hl,hpa⟩ := permB_iff.1 hp
      have := hg.few.1
      rw [if_neg (show ¬ (!true) = true by simp),if_neg (show ¬ true = false by simp),m59_val hg.vec (hpa.inP hg) hpa.pos (by omega) hn,oB]
end Go.AB
