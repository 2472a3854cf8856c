import Derived.Test.YtiginjokbkemcaaGreatLh
set_option linter.unusedVariables false
namespace Go.AB
open Go
def mu (m : List Int) (i : Int) : Int := m.getD i.toNat 0
def cs (P : R24) (m : List Int) (a b : Int) : Int := D P a b + mu m a + mu m b
structure OKm (P : R24) (m : List Int) : Prop where
  len : m.length = P.Pq.length
  bd : ∀ x ∈ m,-20000 ≤ x ∧ x ≤ 20000
theorem mu_bd {P : R24} {m : List Int} (h : OKm P m) (i : Int) : -20000 ≤ mu m i ∧ mu m i ≤ 20000 := by
  unfold mu
  rw [List.getD_eq_getElem?_getD]
  cases e : m[i.toNat]? with
  | none => simp
  | some v => exact h.bd v (List.mem_of_getElem? e)
theorem mu_at {P : R24} {m : List Int} (h : OKm P m) {i : Int} (hi : inN P i) : getIdx m i = some (mu m i) := by
  obtain ⟨h0,h1⟩ := hi
  refine getIdx_q (k := i.toNat) (by omega) ?_
  unfold mu
  rw [List.getD_eq_getElem?_getD,List.getElem?_eq_getElem (by rw [h.len]; omega)]; rfl
theorem cs_comm (P : R24) (m : List Int) (a b : Int) : cs P m a b = cs P m b a := by
  unfold cs
  rw [D_comm]; omega
theorem cs_bd {P : R24} {m : List Int} (hV : VecP P) (h : OKm P m) (a b : Int) : -40000 ≤ cs P m a b ∧ cs P m a b ≤ 56000 := by
  have h1 := D_bd hV a b
  have h2 := mu_bd h a
  have h3 := mu_bd h b
  unfold cs
  omega
theorem m72_val {n : Nat} {P : R24} {m : List Int} {i j : Int} (hV : VecP P) (h : OKm P m) (hi : inN P i) (hj : inN P j) : m72 n P i j m = some (cs P m i j) := by
  have h1 := D_bd hV i j
  have h2 := mu_bd h i
  have h3 := mu_bd h j
  unfold m72
  rw [eta24,m48_val hV hi hj,oB,mu_at h hi,oB,mu_at h hj,oB,letM_eq,wrap64 (x := D P i j + mu m i) (by omega) (by omega),wrap64 (by omega) (by omega)]
  rfl
theorem m106_val {n : Nat} {P : R24} {m : List Int} {i j : Int} (hV : VecP P) (h : OKm P m) (hi : inN P i) (hj : inN P j) : m106 n P m i j = some (cs P m i j) := by
  have h1 := D_bd hV i j
  have h2 := mu_bd h i
  have h3 := mu_bd h j
  unfold m106
  rw [pt_at hi,oB,pt_at hj,oB]
  rw [show m83 n (R50.mk (pt P i).X (pt P i).Y) (R50.mk (pt P j).X (pt P j).Y) = some (D P i j) from m83_val (pt_ok hV _) (pt_ok hV _)]
  rw [oB,mu_at h hi,oB,mu_at h hj,oB,letM_eq,wrap64 (x := D P i j + mu m i) (by omega) (by omega),wrap64 (by omega) (by omega)]
  rfl
theorem PrimR.bd {c : Int → Int → Int} {l S : List Int} {k : Nat} {r : Int} {B : Int} (hc : ∀ a b,-B ≤ c a b ∧ c a b ≤ B) (h : PrimR c l S k r) : -B * (k : Int) ≤ r ∧ r ≤ B * (k : Int) := by
  induction h with
  | done => simp
  | @step S x b r k hp h ih =>
    obtain ⟨l1,l2,e,hx,⟨s,hs,hb⟩,_⟩ := hp
    have := hc x s
    rw [Int.natCast_succ,Int.mul_add,Int.mul_add]
    omega
theorem IsPick.old {c : Int → Int → Int} {l S : List Int} {b x u : Int} (h : IsPick c l S b x) (hu : u ∈ S) : IsPick c (l ++ [u]) S b x := by
  obtain ⟨l1,l2,e,hx,hs,h1,h2⟩ := h
  refine ⟨l1,l2 ++ [u],by rw [e]; simp,hx,hs,fun v hv hS s hs => ?_,h2⟩
  rcases List.mem_append.1 hv with hv | hv
  · exact h1 v hv hS s hs
  · obtain rfl : v = u := by simpa using hv
    exact absurd hu hS
theorem IsPick.keep {c : Int → Int → Int} {l S : List Int} {b x u : Int} (h : IsPick c l S b x) (hu : ∀ s ∈ S,b ≤ c u s) : IsPick c (l ++ [u]) S b x := by
  obtain ⟨l1,l2,e,hx,hs,h1,h2⟩ := h
  refine ⟨l1,l2 ++ [u],by rw [e]; simp,hx,hs,fun v hv hS s hs => ?_,h2⟩
  rcases List.mem_append.1 hv with hv | hv
  · exact h1 v hv hS s hs
  · obtain rfl : v = u := by simpa using hv
    exact hu s hs
theorem IsPick.new {c : Int → Int → Int} {l S : List Int} {b u t : Int} (hu : u ∉ S) (ht : t ∈ S) (hb : b = c u t) (hm : ∀ s ∈ S,b ≤ c u s) (hl : ∀ v ∈ l,v ∉ S → ∀ s ∈ S,b < c v s) : IsPick c (l ++ [u]) S b u := by
  refine ⟨l,[],rfl,hu,⟨t,ht,hb⟩,fun v hv hS s hs => ?_,hl⟩
  rcases List.mem_append.1 hv with hv | hv
  · have := hl v hv hS s hs; omega
  · obtain rfl : v = u := by simpa using hv
    exact hm s hs
def Found (c : Int → Int → Int) (l S : List Int) (s : Int × Int × Bool) : Prop :=
  (s.2.2 = true ∧ ∀ u ∈ l,u ∈ S) ∨ (s.2.2 = false ∧ IsPick c l S s.1 s.2.1)
def upd (c : Int → Int → Int) (u : Int) (s : Int × Int × Bool) (t : Int) : Int × Int × Bool := if s.2.2 = true ∨ c u t < s.1 then (c u t,u,false) else s
def FoundT (c : Int → Int → Int) (l S T : List Int) (u : Int) (s : Int × Int × Bool) : Prop :=
  (s.2.2 = true ∧ (∀ u ∈ l,u ∈ S) ∧ T = []) ∨ (s.2.2 = false ∧ IsPick c l S s.1 s.2.1 ∧ ∀ t ∈ T,s.1 ≤ c u t) ∨
  (s.2.2 = false ∧ s.2.1 = u ∧ (∃ t ∈ T,s.1 = c u t) ∧ (∀ t ∈ T,s.1 ≤ c u t) ∧ ∀ v ∈ l,v ∉ S → ∀ t ∈ S,s.1 < c v t)
theorem FoundT.step {c : Int → Int → Int} {l S T : List Int} {u t : Int} {s : Int × Int × Bool} (h : FoundT c l S T u s) : FoundT c l S (T ++ [t]) u (upd c u s t) := by
  have all : ∀ b : Int,(∀ x ∈ T,b ≤ c u x) → b ≤ c u t → ∀ x ∈ T ++ [t],b ≤ c u x := fun b h1 h2 x hx => by
    rcases List.mem_append.1 hx with hx | hx
    · exact h1 x hx
    · obtain rfl : x = t := by simpa using hx
      exact h2
  unfold upd
  rcases h with ⟨e,h1,rfl⟩ | ⟨e,h1,h2⟩ | ⟨e,e1,⟨t0,ht0,e2⟩,h2,h3⟩
  · rw [if_pos (.inl e)]
    exact .inr (.inr ⟨rfl,rfl,⟨t,by simp,rfl⟩,all _ (fun x hx => by cases hx) (Int.le_refl _),fun v hv hS => absurd (h1 v hv) hS⟩)
  · by_cases hc : c u t < s.1
    · rw [if_pos (.inr hc)]
      obtain ⟨l1,l2,q,hx,hs,q1,q2⟩ := h1
      exact .inr (.inr ⟨rfl,rfl,⟨t,by simp,rfl⟩,all _ (fun x hx => by have := h2 x hx; show c u t ≤ _; omega) (Int.le_refl _),fun v hv hS t' ht' => by have := q1 v hv hS t' ht'; show c u t < _; omega⟩)
    · rw [if_neg (by rintro (h | h); · rw [e] at h; cases h
                     · exact hc h)]
      exact .inr (.inl ⟨e,h1,all _ h2 (by omega)⟩)
  · by_cases hc : c u t < s.1
    · rw [if_pos (.inr hc)]
      exact .inr (.inr ⟨rfl,rfl,⟨t,by simp,rfl⟩,all _ (fun x hx => by have := h2 x hx; show c u t ≤ _; omega) (Int.le_refl _),fun v hv hS t' ht' => by have := h3 v hv hS t' ht'; show c u t < _; omega⟩)
    · rw [if_neg (by rintro (h | h); · rw [e] at h; cases h
                     · exact hc h)]
      exact .inr (.inr ⟨e,e1,⟨t0,by simp [ht0],e2⟩,all _ h2 (by omega),h3⟩)
theorem FoundT.fold {c : Int → Int → Int} {l S : List Int} {u : Int} : ∀ (T' T : List Int) {s : Int × Int × Bool},FoundT c l S T u s → FoundT c l S (T ++ T') u (T'.foldl (upd c u) s)
  | [],T,s,h => by simpa using h
  | t :: T',T,s,h => by
    have := FoundT.fold T' (T ++ [t]) (h.step (t := t))
    simpa using this
theorem Found.row {c : Int → Int → Int} {l S : List Int} {u : Int} {s : Int × Int × Bool} (h : Found c l S s) (hu : u ∉ S) (hS : S ≠ []) : Found c (l ++ [u]) S (S.foldl (upd c u) s) := by
  have h0 : FoundT c l S [] u s := by
    rcases h with ⟨e,h⟩ | ⟨e,h⟩
    · exact .inl ⟨e,h,rfl⟩
    · exact .inr (.inl ⟨e,h,fun t ht => by cases ht⟩)
  have := FoundT.fold S [] h0
  rw [List.nil_append] at this
  rcases this with ⟨_,_,e⟩ | ⟨e,h1,h2⟩ | ⟨e,e1,⟨t0,ht0,e2⟩,h2,h3⟩
  · exact absurd e hS
  · exact .inr ⟨e,h1.keep h2⟩
  · refine .inr ⟨e,?_⟩
    rw [e1]
    exact IsPick.new hu ht0 e2 h2 h3
theorem Found.old {c : Int → Int → Int} {l S : List Int} {u : Int} {s : Int × Int × Bool} (h : Found c l S s) (hu : u ∈ S) : Found c (l ++ [u]) S s := by
  rcases h with ⟨e,h⟩ | ⟨e,h⟩
  · refine .inl ⟨e,fun v hv => ?_⟩
    rcases List.mem_append.1 hv with hv | hv
    · exact h v hv
    · obtain rfl : v = u := by simpa using hv
      exact hu
  · exact .inr ⟨e,h.old hu⟩
def rowS (c : Int → Int → Int) (S : List Int) (s : Int × Int × Bool) (u : Int) : Int × Int × Bool := if u ∈ S then s else S.foldl (upd c u) s
theorem Found.all {c : Int → Int → Int} {S : List Int} (hS : S ≠ []) : ∀ (l' l : List Int) {s : Int × Int × Bool},Found c l S s → Found c (l ++ l') S (l'.foldl (rowS c S) s)
  | [],l,s,h => by simpa using h
  | u :: l',l,s,h => by
    have h1 : Found c (l ++ [u]) S (rowS c S s u) := by
      unfold rowS
      by_cases hu : u ∈ S
      · rw [if_pos hu]; exact h.old hu
      · rw [if_neg hu]; exact h.row hu hS
    have := Found.all hS l' (l ++ [u]) h1
    simpa using this
def pickS (c : Int → Int → Int) (l S : List Int) : Int × Int × Bool := l.foldl (rowS c S) (0,0,true)
theorem pickS_is {c : Int → Int → Int} {l S : List Int} (hS : S ≠ []) (hl : l.Nodup) (hlen : S.length < l.length) : IsPick c l S (pickS c l S).1 (pickS c l S).2.1 := by
  have h := Found.all (c := c) hS l [] (s := (0,0,true)) (.inl ⟨rfl,fun u hu => by cases hu⟩)
  rw [List.nil_append] at h
  rcases h with ⟨_,h⟩ | ⟨_,h⟩
  · obtain ⟨x,hx,hn⟩ := nodup_more hl hlen
    exact absurd (h x hx) hn
  · exact h
theorem m104_L13_val {n : Nat} {P : R24} {m l S : List Int} {sum : Int} {x : Int × Int × Bool × Int} {i : Nat} (hV : VecP P) (hm : OKm P m) (hl : InP P l) (hSI : InP P S) (hS : S.length ≤ 1000) (hi : i < l.length) (hx : x.2.2.2 = (i : Int)) (hn : 2000 < n)
    {s : Int × Int × Bool} {K : Int × Int × Bool → Option Int} : loopM (m104_L13 n P m l (sum,S) x K) n (s.1,s.2.1,s.2.2,(0 : Int)) = K (rowS (cs P m) S s l[i]) := by
  unfold rowS
  have hli := hl _ (List.getElem_mem hi)
  have hgl : getIdx l x.2.2.2 = some l[i] := getIdx_at hx hi
  by_cases hu : l[i] ∈ S
  · rw [if_pos hu]
    have h0 : 0 < S.length := List.length_pos_of_mem hu
    obtain ⟨n',rfl⟩ : ∃ n',n = n' + 1 := ⟨n - 1,by omega⟩
    rw [loopM_succ,m104_L13]
    dsimp only
    rw [decide_eq_true (by omega),gdO_true,hgl,oB,gdO_true,m57_val (by omega) (by omega),oB,List.contains_iff_mem.2 hu,if_neg (by simp)]
  · rw [if_neg hu]
    have hc : S.contains l[i] = false := by
      rw [← Bool.not_eq_true,List.contains_iff_mem]; exact hu
    refine loop_run (n := n) (fun k => (((S.take k).foldl (upd (cs P m) l[i]) s).1,((S.take k).foldl (upd (cs P m) l[i]) s).2.1,((S.take k).foldl (upd (cs P m) l[i]) s).2.2,(k : Int))) S.length _ (by simp) (fun k hk nx => ?_) (fun nx => ?_) (by omega)
    · rw [m104_L13]
      dsimp only
      rw [decide_eq_true (by omega),gdO_true,hgl,oB,gdO_true,m57_val (by omega) (by omega),oB,hc,if_pos (show (true && !false) = true from rfl),oB,getIdx_at rfl hk,oB,eta24,
        m106_val hV hm hli (hSI _ (List.getElem_mem hk)),oB]
      dsimp only [jn,letM]
      rw [oB,wInc (by omega),foldl_take hk]
      generalize (S.take k).foldl (upd (cs P m) l[i]) s = st
      unfold upd
      by_cases h : st.2.2 = true ∨ cs P m l[i] S[k] < st.1
      · rw [if_pos h,if_pos (by simpa using h)]
      · rw [if_neg h,if_neg (by simpa using h)]
    · rw [m104_L13]
      dsimp only
      rw [decide_eq_false (by omega),gdO_false,oB,gdO_false,oB,Bool.false_and,if_neg (by simp),List.take_length]
theorem m104_L12_val {n : Nat} {P : R24} {m l S : List Int} {sum : Int} (hV : VecP P) (hm : OKm P m) (hl : InP P l) (hSI : InP P S) (hS : S.length ≤ 1000) (hll : l.length ≤ 1000) (hn : 2000 < n)
    {K : Int × Int → Option Int} : loopM (m104_L12 n P m l (sum,S) K) n ((0 : Int),(0 : Int),true,(0 : Int)) = K ((pickS (cs P m) l S).1,(pickS (cs P m) l S).2.1) := by
  unfold pickS
  refine loop_run (n := n) (fun k => (((l.take k).foldl (rowS (cs P m) S) (0,0,true)).1,((l.take k).foldl (rowS (cs P m) S) (0,0,true)).2.1,((l.take k).foldl (rowS (cs P m) S) (0,0,true)).2.2,(k : Int))) l.length _ (by simp) (fun k hk nx => ?_) (fun nx => ?_) (by omega)
  · rw [m104_L12]
    rw [if_pos (by simp; omega)]
    rw [jn]
    dsimp only
    rw [m104_L13_val hV hm hl hSI hS hk rfl hn]
    dsimp only [letM]
    rw [wInc (by omega),foldl_take hk]
  · rw [m104_L12,if_neg (by simp),List.take_length]
theorem IsPick.bd {c : Int → Int → Int} {l S : List Int} {b x B : Int} (hc : ∀ a b,-B ≤ c a b ∧ c a b ≤ B) (h : IsPick c l S b x) : -B ≤ b ∧ b ≤ B := by
  obtain ⟨l1,l2,e,hx,⟨s,hs,hb⟩,_⟩ := h
  have := hc x s
  omega
theorem cs_bd' {P : R24} {m : List Int} (hV : VecP P) (h : OKm P m) (a b : Int) : -56000 ≤ cs P m a b ∧ cs P m a b ≤ 56000 := by
  have := cs_bd hV h a b
  omega
theorem m104_L9_val {N : Nat} {P : R24} {m l : List Int} (hV : VecP P) (hm : OKm P m) (hl : InP P l) (hd : l.Nodup) (hll : l.length ≤ 1000) (hN : 2000 < N) {K : Int → Option Int} : ∀ (k n : Nat) (S : List Int) (sum : Int),S ≠ [] → InP P S → S.length + k = l.length → k < n →
    -56000 * (S.length : Int) ≤ sum → sum ≤ 56000 * (S.length : Int) → ∃ r,PrimR (cs P m) l S k r ∧ loopM (m104_L9 N P m l K) n (sum,S) = K (sum + r)
  | 0,n + 1,S,sum,hS,hSI,hk,hn,_,_ => by
    refine ⟨0,.done,?_⟩
    rw [loopM_succ,m104_L9,if_neg (by simp; omega),Int.add_zero]
  | k + 1,n + 1,S,sum,hS,hSI,hk,hn,hs0,hs1 => by
    have hp := pickS_is (c := cs P m) hS hd (by omega)
    have hb := hp.bd (cs_bd' hV hm)
    have hx := hl _ hp.mem
    obtain ⟨r,h1,h2⟩ := m104_L9_val hV hm hl hd hll hN k n (S ++ [(pickS (cs P m) l S).2.1]) (sum + (pickS (cs P m) l S).1) (by simp) (hSI.snoc hx) (by simp; omega) (by omega) (by simp; omega) (by simp; omega)
    refine ⟨_,.step hp h1,?_⟩
    rw [loopM_succ,m104_L9,if_pos (by simp; omega),jn]
    rw [m104_L12_val hV hm hl hSI (by omega) hll hN]
    dsimp only [letM]
    rw [wrap64 (by omega) (by omega),apd_val (by simp; omega),oB,h2]
    congr 1; omega
theorem m104_val {n : Nat} {P : R24} {m t : List Int} {a : Int} (hV : VecP P) (hm : OKm P m) (hl : InP P (a :: t)) (hd : (a :: t).Nodup) (hll : (a :: t).length ≤ 1000) (hn : 2000 < n) : ∃ r,PrimR (cs P m) (a :: t) [a] t.length r ∧ m104 n P m (a :: t) = some r := by
  obtain ⟨r,h1,h2⟩ := m104_L9_val (N := n) hV hm hl hd hll hn (K := fun p => some p) t.length n [a] 0 (by simp) (fun x hx => hl x (by simp at hx; simp [hx])) (by simp; omega) (by simp at hll; omega) (by simp) (by simp)
  refine ⟨r,h1,?_⟩
  unfold m104
  dsimp only [jn]
  rw [if_pos (by simp),get0,oB,apd_val (by simp),oB,List.nil_append,h2,Int.zero_add]
end Go.AB
