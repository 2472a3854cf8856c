import Derived.Test.YtiginjokbkemcaaGreatLi
set_option linter.unusedVariables false
namespace Go.AB
open Go
theorem map_at {α : Type} {f : Int → α} {l : List Int} {i : Nat} (h : i < l.length) : getIdx (l.map f) (i : Int) = some (f l[i]) := by
  rw [getIdx_at rfl (by simpa using h),List.getElem_map]
theorem nodup_inj {l : List Int} (hd : l.Nodup) {i j : Nat} (hi : i < l.length) (hj : j < l.length) (e : l[i] = l[j]) : i = j := by
  have h := List.pairwise_iff_getElem.1 (List.nodup_iff_pairwise_ne.1 hd)
  rcases Nat.lt_trichotomy i j with h1 | h1 | h1
  · exact absurd e (h i j hi hj h1)
  · exact h1
  · exact absurd e.symm (h j i hj hi h1)
theorem map_set {α : Type} {f : Int → α} {l : List Int} {i : Nat} {v : α} (hd : l.Nodup) (h : i < l.length) : setIdx (l.map f) (i : Int) v = some (l.map fun y => if y = l[i] then v else f y) := by
  rw [setIdx_at rfl (by simpa using h)]
  congr 1
  apply List.ext_getElem (by simp)
  intro k h1 h2
  have hk : k < l.length := by simpa using h2
  rw [List.getElem_map]
  by_cases e : k = i
  · subst e
    rw [List.getElem_set_self,if_pos rfl]
  · rw [List.getElem_set_ne (by omega),List.getElem_map,if_neg fun e' => e (nodup_inj hd hk h e')]
def inR (l S : List Int) : List Bool := l.map fun y => S.contains y
structure OkT (c : Int → Int → Int) (l S : List Int) (T : Int → Int) : Prop where
  mem : ∀ y ∈ l,T y ∈ S
  le : ∀ y ∈ l,y ∉ S → ∀ s ∈ S,c y (T y) ≤ c y s
def F6 (c : Int → Int → Int) (l S : List Int) (k : Nat) (b v : Int) : Prop :=
  (b = -1 ∧ ∀ u ∈ l.take k,u ∈ S) ∨ ∃ (j : Nat) (h : j < l.length),b = (j : Int) ∧ IsPick c (l.take k) S v l[j]
theorem F6.skip {c : Int → Int → Int} {l S : List Int} {k : Nat} {b v : Int} (h : F6 c l S k b v) (hk : k < l.length) (hu : l[k] ∈ S) : F6 c l S (k + 1) b v := by
  unfold F6
  rw [List.take_succ_eq_append_getElem hk]
  rcases h with ⟨e,h⟩ | ⟨j,hj,e,h⟩
  · refine .inl ⟨e,fun u hu' => ?_⟩
    rcases List.mem_append.1 hu' with hu' | hu'
    · exact h u hu'
    · obtain rfl : u = l[k] := by simpa using hu'
      exact hu
  · exact .inr ⟨j,hj,e,h.old hu⟩
theorem F6.turn {c : Int → Int → Int} {l S : List Int} {T : Int → Int} {k : Nat} {b v : Int} (hT : OkT c l S T) (h : F6 c l S k b v) (hk : k < l.length) (hu : l[k] ∉ S) (hc : b < 0 ∨ c l[k] (T l[k]) < v) : F6 c l S (k + 1) k (c l[k] (T l[k])) := by
  unfold F6
  rw [List.take_succ_eq_append_getElem hk]
  have hm := List.getElem_mem hk
  refine .inr ⟨k,hk,rfl,IsPick.new hu (hT.mem _ hm) rfl (hT.le _ hm hu) fun w hw hwS s hs => ?_⟩
  rcases h with ⟨e,h⟩ | ⟨j,hj,e,l1,l2,q,hx,hs',h1,h2⟩
  · exact absurd (h w hw) hwS
  · have := h1 w hw hwS s hs
    omega
theorem F6.keep {c : Int → Int → Int} {l S : List Int} {T : Int → Int} {k : Nat} {b v : Int} (hT : OkT c l S T) (h : F6 c l S k b v) (hk : k < l.length) (hu : l[k] ∉ S) (hc : ¬ (b < 0 ∨ c l[k] (T l[k]) < v)) : F6 c l S (k + 1) b v := by
  unfold F6
  rw [List.take_succ_eq_append_getElem hk]
  have hm := List.getElem_mem hk
  rcases h with ⟨e,h⟩ | ⟨j,hj,e,h⟩
  · exact absurd (.inl (by omega)) hc
  · refine .inr ⟨j,hj,e,h.keep fun s hs => ?_⟩
    have := hT.le _ hm hu s hs
    omega
theorem m56_L6_val {n : Nat} {P : R24} {m l S : List Int} {T : Int → Int} {x : Int × Int × List Int × List Int × List Bool} (hV : VecP P) (hm : OKm P m) (hl : InP P l) (hd : l.Nodup) (hll : l.length ≤ 1000) (hSl : ∀ s ∈ S,s ∈ l) (hT : OkT (cs P m) l S T)
    (hS : S.length < l.length) (hto : x.2.2.2.1 = l.map T) (hin : x.2.2.2.2 = inR l S) (hn : 2000 < n) {K : Int × Int → Option (Int × List Int)} :
    ∃ (j : Nat) (h : j < l.length) (v : Int),IsPick (cs P m) l S v l[j] ∧ loopM (m56_L6 n P l m x K) n ((-1 : Int),(0 : Int),(0 : Int)) = K ((j : Int),v) := by
  refine loopM_ind (fun mm y => ∃ (k : Nat) (b v : Int),k ≤ l.length ∧ mm = l.length - k ∧ y = (b,v,(k : Int)) ∧ F6 (cs P m) l S k b v)
    (fun o => ∃ (j : Nat) (h : j < l.length) (v : Int),IsPick (cs P m) l S v l[j] ∧ o = K ((j : Int),v)) ?_ n l.length _ ⟨0,-1,0,by omega,rfl,rfl,.inl ⟨rfl,fun u hu => by simp at hu⟩⟩ (by omega)
  rintro mm y ⟨k,b,v,hk,rfl,rfl,hF⟩
  rcases Nat.lt_or_ge k l.length with h1 | h1
  · have hm' := List.getElem_mem h1
    have hval : getIdx (l.map T) (k : Int) = some (T l[k]) := map_at h1
    have hini : getIdx (inR l S) (k : Int) = some (S.contains l[k]) := map_at h1
    have hc := m72_val (n := n) hV hm (hl _ hm') (hl _ (hSl _ (hT.mem _ hm')))
    have pre : ∀ nx,m56_L6 n P l m x K nx (b,v,(k : Int)) = if ((!S.contains l[k]) && ((decide (b < (0 : Int))) || (decide (cs P m l[k] (T l[k]) < v)))) = true then nx ((k : Int),cs P m l[k] (T l[k]),((k + 1 : Nat) : Int)) else nx (b,v,((k + 1 : Nat) : Int)) := fun nx => by
      rw [m56_L6,if_pos (by simp; omega)]
      dsimp only
      rw [getIdx_at rfl h1,oB,hto,hval,oB,eta24,hc,oB,hin,hini,oB]
      dsimp only [jn,letM]
      rw [wInc (by omega)]
    by_cases hu : l[k] ∈ S
    · refine .inl ⟨l.length - (k + 1),_,by omega,⟨k + 1,b,v,by omega,rfl,rfl,hF.skip h1 hu⟩,fun nx => ?_⟩
      rw [pre,List.contains_iff_mem.2 hu,if_neg (by simp)]
    · have hcn : S.contains l[k] = false := by
        rw [← Bool.not_eq_true,List.contains_iff_mem]; exact hu
      by_cases hcc : b < 0 ∨ cs P m l[k] (T l[k]) < v
      · refine .inl ⟨l.length - (k + 1),_,by omega,⟨k + 1,_,_,by omega,rfl,rfl,hF.turn hT h1 hu hcc⟩,fun nx => ?_⟩
        rw [pre,hcn,if_pos (by simpa using hcc)]
      · refine .inl ⟨l.length - (k + 1),_,by omega,⟨k + 1,_,_,by omega,rfl,rfl,hF.keep hT h1 hu hcc⟩,fun nx => ?_⟩
        rw [pre,hcn,if_neg (by simpa using hcc)]
  · have : k = l.length := by omega
    subst this
    unfold F6 at hF
    rw [List.take_length] at hF
    rcases hF with ⟨e,h⟩ | ⟨j,hj,e,h⟩
    · obtain ⟨w,hw,hwn⟩ := nodup_more hd hS
      exact absurd (h w hw) hwn
    · refine .inr ⟨_,⟨j,hj,v,h,rfl⟩,fun nx => ?_⟩
      rw [m56_L6,if_neg (by simp),e]
def newT (c : Int → Int → Int) (S : List Int) (T : Int → Int) (x y : Int) : Int := if y ∉ S ∧ c y x < c y (T y) then x else T y
theorem OkT.next {c : Int → Int → Int} {l S : List Int} {T : Int → Int} {x : Int} (h : OkT c l S T) (hx : x ∈ l) : OkT c l (S ++ [x]) (newT c (S ++ [x]) T x) := by
  refine ⟨fun y hy => ?_,fun y hy hn s hs => ?_⟩
  · unfold newT
    split
    · simp
    · exact List.mem_append_left _ (h.mem y hy)
  · have hyS : y ∉ S := fun h => hn (List.mem_append_left _ h)
    have h1 := h.le y hy hyS
    unfold newT
    by_cases hc : y ∉ S ++ [x] ∧ c y x < c y (T y)
    · rw [if_pos hc]
      rcases List.mem_append.1 hs with hs | hs
      · have := h1 s hs; omega
      · obtain rfl : s = x := by simpa using hs
        exact Int.le_refl _
    · rw [if_neg hc]
      rcases List.mem_append.1 hs with hs | hs
      · exact h1 s hs
      · obtain rfl : s = x := by simpa using hs
        have : ¬ c y s < c y (T y) := fun h => hc ⟨hn,h⟩
        omega
theorem m56_L7_val {n : Nat} {P : R24} {m l S : List Int} {T : Int → Int} {j : Nat} {v : Int} (hV : VecP P) (hm : OKm P m) (hl : InP P l) (hd : l.Nodup) (hll : l.length ≤ 1000) (hSl : ∀ s ∈ S,s ∈ l) (hT : ∀ y ∈ l,T y ∈ S)
    (hj : j < l.length) (hn : 2000 < n) {K : List Int → Option (Int × List Int)} :
    loopM (m56_L7 n P l m ((j : Int),v) (inR l S) K) n ((0 : Int),l.map T) = K (l.map (newT (cs P m) S T l[j])) := by
  refine loop_run (n := n) (fun i => ((i : Int),l.map fun y => if (l.take i).contains y = true then newT (cs P m) S T l[j] y else T y)) l.length _ (by simp) (fun i hi nx => ?_) (fun nx => ?_) (by omega)
  · have hmi := List.getElem_mem hi
    have hni : (l.take i).contains l[i] = false := by
      rw [← Bool.not_eq_true,List.contains_iff_mem]
      intro h
      obtain ⟨q,hq,e⟩ := List.getElem_of_mem h
      rw [List.getElem_take] at e
      have hq' : q < i := by simp at hq; omega
      have := nodup_inj hd (by omega) hi e
      omega
    have hini : getIdx (inR l S) (i : Int) = some (S.contains l[i]) := map_at hi
    have hti : getIdx (l.map fun y => if (l.take i).contains y = true then newT (cs P m) S T l[j] y else T y) (i : Int) = some (T l[i]) := by
      rw [map_at hi,hni,if_neg (by simp)]
    have hc1 := m72_val (n := n) hV hm (hl _ hmi) (hl _ (List.getElem_mem hj))
    have hc2 := m72_val (n := n) hV hm (hl _ hmi) (hl _ (hSl _ (hT _ hmi)))
    have hjj : getIdx l (j : Int) = some l[j] := getIdx_at rfl hj
    have nxt : ∀ w,w = newT (cs P m) S T l[j] l[i] → (l.map fun y => if y = l[i] then w else if (l.take i).contains y = true then newT (cs P m) S T l[j] y else T y) = l.map fun y => if (l.take (i + 1)).contains y = true then newT (cs P m) S T l[j] y else T y := fun w hw => by
      refine List.map_congr_left fun y hy => ?_
      rw [List.take_succ_eq_append_getElem hi,List.contains_append]
      by_cases e : y = l[i]
      · subst e
        rw [if_pos rfl,hw]
        simp
      · rw [if_neg e]
        have : ([l[i]] : List Int).contains y = false := by
          rw [← Bool.not_eq_true,List.contains_iff_mem]
          simpa using e
        rw [this,Bool.or_false]
    have skp : T l[i] = newT (cs P m) S T l[j] l[i] → (l.map fun y => if (l.take i).contains y = true then newT (cs P m) S T l[j] y else T y) = l.map fun y => if (l.take (i + 1)).contains y = true then newT (cs P m) S T l[j] y else T y := fun hw => by
      rw [← nxt _ hw]
      refine List.map_congr_left fun y hy => ?_
      by_cases e : y = l[i]
      · subst e
        rw [if_pos rfl,hni,if_neg (by simp)]
      · rw [if_neg e]
    rw [m56_L7,if_pos (by simp; omega)]
    dsimp only
    rw [getIdx_at rfl hi,oB,hini,oB]
    by_cases hu : l[i] ∈ S
    · have hb : S.contains l[i] = true := List.contains_iff_mem.2 hu
      rw [hb]
      simp only [Bool.not_true,gdO_false,oB,Bool.false_and]
      dsimp only [jn,letM]
      rw [if_neg (by simp),wInc (by omega),skp]
      unfold newT
      rw [if_neg fun h => h.1 hu]
    · have hb : S.contains l[i] = false := by
        rw [← Bool.not_eq_true,List.contains_iff_mem]; exact hu
      rw [hb]
      simp only [Bool.not_false,gdO_true,Bool.true_and,hjj,oB,eta24,hc1,hc2,hti]
      dsimp only [jn,letM]
      by_cases hc : cs P m l[i] l[j] < cs P m l[i] (T l[i])
      · rw [if_pos (by simpa using hc),map_set hd hi,oB,wInc (by omega),nxt]
        unfold newT
        rw [if_pos ⟨hu,hc⟩]
      · rw [if_neg (by simpa using hc),wInc (by omega),skp]
        unfold newT
        rw [if_neg fun h => hc h.2]
  · rw [m56_L7,if_neg (by simp)]
    congr 1
    refine List.map_congr_left fun y hy => ?_
    rw [List.take_length,if_pos (List.contains_iff_mem.2 hy)]
theorem inR_snoc {l S : List Int} {x : Int} : (l.map fun y => if y = x then true else S.contains y) = inR l (S ++ [x]) := by
  unfold inR
  refine List.map_congr_left fun y hy => ?_
  rw [List.contains_append]
  by_cases e : y = x
  · subst e; simp
  · rw [if_neg e]
    have : ([x] : List Int).contains y = false := by
      rw [← Bool.not_eq_true,List.contains_iff_mem]; simpa using e
    rw [this,Bool.or_false]
theorem deg_inc {deg : List Int} {y : Int} {N : Nat} (h : deg.length = N) (hy : 0 ≤ y ∧ y < N) : ∃ v deg',getIdx deg y = some v ∧ setIdx deg y (IntKind.wrap .i64 (v + 1)) = some deg' ∧ deg'.length = N := by
  refine ⟨deg[y.toNat]'(by omega),deg.set y.toNat (IntKind.wrap .i64 (deg[y.toNat]'(by omega) + 1)),getIdx_at (k := y.toNat) (by omega) (by omega),setIdx_at (by omega) (by omega),by simp [h]⟩
theorem m56_L5_val {N : Nat} {P : R24} {m l : List Int} (hV : VecP P) (hm : OKm P m) (hl : InP P l) (hd : l.Nodup) (hll : l.length ≤ 1000) (hN : 2000 < N) {K : Int × List Int → Option (Int × List Int)} : ∀ (k n : Nat) (S deg : List Int) (T : Int → Int) (sum : Int),
    S ≠ [] → (∀ s ∈ S,s ∈ l) → OkT (cs P m) l S T → S.length + k = l.length → k < n → deg.length = P.Pq.length → -56000 * (S.length : Int) ≤ sum → sum ≤ 56000 * (S.length : Int) →
    ∃ r deg',PrimR (cs P m) l S k r ∧ deg'.length = P.Pq.length ∧ loopM (m56_L5 N P l m ((l.length : Int) - 1) K) n (sum,(S.length : Int) - 1,deg,l.map T,inR l S) = K (sum + r,deg')
  | 0,n + 1,S,deg,T,sum,hS,hSl,hT,hk,hn,hdeg,_,_ => by
    refine ⟨0,deg,.done,hdeg,?_⟩
    rw [loopM_succ,m56_L5,if_neg (by simp; omega),Int.add_zero]
  | k + 1,n + 1,S,deg,T,sum,hS,hSl,hT,hk,hn,hdeg,hs0,hs1 => by
    have h0 : 0 < S.length := List.length_pos_iff.2 hS
    obtain ⟨j,hj,v,hp,e⟩ := m56_L6_val (n := N) (T := T) (x := (sum,(S.length : Int) - 1,deg,l.map T,inR l S)) hV hm hl hd hll hSl hT (by omega) rfl rfl hN
      (K := fun p_174 : Int × Int => ((getIdx (inR l S) p_174.1).bind fun y_176 => ((setIdx (inR l S) p_174.1 true).bind fun l5_177 => (letM ((IntKind.wrap .i64 (sum + p_174.2))) fun t11_178 => ((getIdx l p_174.1).bind fun y_179 => ((getIdx deg y_179).bind fun y_180 => ((getIdx deg y_179).bind fun y_181 => ((setIdx deg y_179 (IntKind.wrap .i64 (y_180 + (1 : Int)))).bind fun l1_182 => ((getIdx (l.map T) p_174.1).bind fun y_183 => ((getIdx l1_182 y_183).bind fun y_184 => ((getIdx l1_182 y_183).bind fun y_185 => ((setIdx l1_182 y_183 (IntKind.wrap .i64 (y_184 + (1 : Int)))).bind fun l1_186 => (jn (fun p_227 : (List Int) => (letM ((IntKind.wrap .i64 ((S.length : Int) - 1 + (1 : Int)))) fun t37_229 => (loopM (m56_L5 N P l m ((l.length : Int) - 1) K) n (t11_178,t37_229,l1_186,p_227,l5_177)))) fun k_228 => (loopM (m56_L7 N P l m p_174 l5_177 k_228) N ((0 : Int),l.map T)))))))))))))))
    have hb := hp.bd (cs_bd' hV hm)
    have hxl := List.getElem_mem hj
    have hT' := hT.next hxl
    have hx := hl _ hxl
    obtain ⟨d1,deg1,g1,g2,g3⟩ := deg_inc hdeg hx
    obtain ⟨d2,deg2,g4,g5,g6⟩ := deg_inc g3 (hl _ (hSl _ (hT.mem _ hxl)))
    obtain ⟨r,deg',h1,h2,h3⟩ := m56_L5_val hV hm hl hd hll hN (K := K) k n (S ++ [l[j]]) deg2 (newT (cs P m) (S ++ [l[j]]) T l[j]) (sum + v) (by simp) (fun s hs => by
      rcases List.mem_append.1 hs with hs | hs
      · exact hSl s hs
      · obtain rfl : s = l[j] := by simpa using hs
        exact hxl) hT' (by simp; omega) (by omega) g6 (by simp; omega) (by simp; omega)
    refine ⟨_,deg',.step hp h1,h2,?_⟩
    rw [loopM_succ,m56_L5]
    dsimp only
    rw [if_pos (by simp; omega),jn]
    refine (show _ = _ from e).trans ?_
    dsimp only
    have hset : setIdx (inR l S) (j : Int) true = some (inR l (S ++ [l[j]])) := by
      unfold inR
      rw [map_set hd hj]
      congr 1
      exact inR_snoc
    have hin : getIdx (inR l S) (j : Int) = some (S.contains l[j]) := map_at hj
    rw [hin,oB,hset,oB]
    dsimp only [letM]
    rw [getIdx_at (xs := l) rfl hj,oB,g1,oB,oB,g2,oB,map_at hj,oB,g4,oB,oB,g5,oB,jn]
    rw [m56_L7_val hV hm hl hd hll (S := S ++ [l[j]]) (fun s hs => by
      rcases List.mem_append.1 hs with hs | hs
      · exact hSl s hs
      · obtain rfl : s = l[j] := by simpa using hs
        exact hxl) (fun y hy => List.mem_append_left _ (hT.mem y hy)) hj hN]
    rw [wrap64 (x := sum + v) (by omega) (by omega),wrap64 (by omega) (by omega)]
    have e1 : (S.length : Int) - 1 + 1 = ((S ++ [l[j]]).length : Int) - 1 := by simp
    rw [e1,h3]
    congr 2; omega
theorem m56_val {n : Nat} {P : R24} {m t deg : List Int} {a : Int} (hV : VecP P) (hm : OKm P m) (hl : InP P (a :: t)) (hd : (a :: t).Nodup) (hll : (a :: t).length ≤ 1000) (hdeg : deg.length = P.Pq.length) (hn : 2000 < n) :
    ∃ r deg',PrimR (cs P m) (a :: t) [a] t.length r ∧ deg'.length = P.Pq.length ∧ m56 n P (a :: t) m deg = some (r,deg') := by
  have hT : OkT (cs P m) (a :: t) [a] (fun _ => a) := ⟨fun y hy => by simp,fun y hy hn s hs => by
    obtain rfl : s = a := by simpa using hs
    exact Int.le_refl _⟩
  obtain ⟨r,deg',h1,h2,h3⟩ := m56_L5_val (N := n) hV hm hl hd hll hn (K := fun p => some (p.1,p.2)) t.length n [a] deg (fun _ => a) 0 (by simp) (fun s hs => by simp at hs; simp [hs]) hT (by simp; omega) (by simp at hll; omega) hdeg (by simp) (by simp)
  refine ⟨r,deg',h1,h2,?_⟩
  have hrep : List.replicate (a :: t).length a = (a :: t).map fun _ => a := by simp [List.map_const',List.replicate_succ]
  have hin : setIdx (List.replicate (a :: t).length false) 0 true = some (inR (a :: t) [a]) := by
    rw [setIdx_at (i := 0) (k := 0) (by simp) (by simp)]
    congr 1
    unfold inR
    have hna := (List.nodup_cons.1 hd).1
    simp only [List.length_cons,List.replicate_succ,List.set_cons_zero,List.map_cons]
    congr 1
    · simp
    · have : t.map (fun y => ([a] : List Int).contains y) = t.map fun _ => false := List.map_congr_left fun y hy => by
        rw [← Bool.not_eq_true,List.contains_iff_mem]
        simp only [List.mem_singleton]
        exact fun e => hna (e ▸ hy)
      rw [this]; simp [List.map_const']
  unfold m56
  rw [if_neg (by simp; omega),get0,oB,m81o_val (by omega) hn,oB,mk_val (k := (a :: t).length) rfl rfl (by omega),oB,getIdx_at (i := 0) (k := 0) (by simp) (by simp),oB,hin,oB,letM_eq,wrap64 (by omega) (by omega),jn,hrep]
  have := h3
  simp only [Int.zero_add] at this
  exact this
end Go.AB
