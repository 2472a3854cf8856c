import Derived.Test.YtnmglighdhaccaaLd
set_option linter.unusedVariables false
namespace Go.AB
open Go
def posL (a : List Int) : Bool := a.any fun k => decide (0 < k)
theorem m61_val {n : Nat} {a : List Int} (ha : a.length ≤ 1000000) (hn : a.length < n) : m61 n a = some (posL a) := by
  unfold m61 m71 jn
  dsimp only
  refine loop_findP (fun i => (i : Int)) a.length (fun i => decide (0 < a.getD i 0)) (fun i => some (i : Int)) (some (-1)) (fun o => o.bind (fun y => some (decide (0 ≤ y))) = some (posL a)) ?_ ?_ ?_ hn (fun i h1 h2 _ => ?_) fun h1 => ?_
  · intro i hi hp nx
    rw [m71_L1,if_pos (by simp; omega),getIdx_D rfl hi,oB]
    unfold m74
    rw [oB,if_neg (by simpa using hp),letM_eq,wrap64 (by omega) (by omega)]
    rfl
  · intro i hi hp nx
    rw [m71_L1,if_pos (by simp; omega),getIdx_D rfl hi,oB]
    unfold m74
    rw [oB,if_pos (by simpa using hp)]
  · intro nx
    rw [m71_L1,if_neg (by simp)]
  · rw [oB,decide_eq_true (by omega)]
    congr 1
    symm
    unfold posL
    rw [List.any_eq_true]
    refine ⟨a.getD i 0,?_,h2⟩
    rw [← getD_at h1]
    exact List.getElem_mem h1
  · rw [oB]
    congr 1
    symm
    rw [show decide ((0 : Int) ≤ -1) = false from rfl]
    unfold posL
    rw [List.any_eq_false]
    intro k hk
    obtain ⟨i,hi,rfl⟩ := List.getElem_of_mem hk
    have := h1 i hi
    rw [← getD_at hi] at this
    simpa using this
theorem latS_bd {p : R23} (h : Vp p) : ∀ {m i : Nat},i + m ≤ p.Lq.length → 0 ≤ latS p i m ∧ latS p i m ≤ 2100000 * (m : Int)
  | 0,i,_ => by simp [latS]
  | m + 1,i,hi => by
    have h1 := latS_bd h (m := m) (i := i + 1) (by omega)
    have hd := h.dem (show i < p.Lq.length by omega)
    have hz := h.sz (show i < p.Lq.length by omega)
    have := h.k1
    have h2 := mulB hd.1 hd.2 (show 0 ≤ szP p i by omega) hz.2
    rw [latS]
    have : ((m + 1 : Nat) : Int) = (m : Int) + 1 := by omega
    rw [this]
    omega
theorem downLoop {R : Type} {body : ((Int × List Int) → Option (List R × List Int)) → (Int × List Int) → Option (List R × List Int)} {lo top : Int} {A : Int → List Int} {F : Int → List R} {fin : List Int}
    (go : ∀ k c nx,lo ≤ k → k ≤ top → body nx (k,A c) = (nx (k - 1,A k)).map fun q => (F k ++ q.1,q.2)) (st : ∀ k c nx,k < lo → body nx (k,A c) = some ([],fin)) :
    ∀ (m n : Nat) (hi c : Int),hi - lo < (m : Int) → hi ≤ top → m < n → loopM body n (hi,A c) = some ((downs lo m hi).flatMap F,fin)
  | m,0,hi,c,_,_,h => absurd h (Nat.not_lt_zero _)
  | 0,n + 1,hi,c,h1,h2,h3 => by
    rw [loopM_succ,st hi c _ (by omega)]; rfl
  | m + 1,n + 1,hi,c,h1,h2,h3 => by
    rw [loopM_succ]
    by_cases hl : lo ≤ hi
    · rw [go hi c _ hl h2,downLoop go st m n (hi - 1) hi (by omega) (by omega) (by omega),downs,if_pos hl]
      rfl
    · rw [st hi c _ (by omega),downs,if_neg hl]; rfl
theorem set_pre {a : List Int} {c k : Int} {b : List Int} {i : Nat} (h : a.length = i) : (a ++ c :: b).set i k = a ++ k :: b := by subst h; simp [List.set_append]
theorem m73F_val {n : Nat} {p : R23} (h : Vp p) {must : Int} {later : List Int} (hlat : ∀ i,i ≤ p.Lq.length → later.getD i 0 = latS p i (p.Lq.length - i)) (hll : later.length = p.Lq.length + 1) (hn : 1100 < n) :
    ∀ (m f i : Nat) (left need : Int) (pre : List Int),m < f → i + m = p.Lq.length → pre.length = i → 0 ≤ left → left ≤ 2100 → 0 ≤ need → need ≤ 2200 →
      m73F n f (i : Int) left need later (p.Lq.length : Int) (pre ++ List.replicate m 0) must p.Lq p.Dq p.Sq p.Kq =
        some ((((ext p must m i left).filter (okE p i left need)).map (pre ++ ·)).filter posL,pre ++ List.replicate m 0)
  | m,0,i,left,need,pre,hf,_,_,_,_,_,_ => absurd hf (Nat.not_lt_zero _)
  | 0,f + 1,i,left,need,pre,hf,him,hpl,hl0,hl1,hn0,hn1 => by
    have hil : i = p.Lq.length := by omega
    have hl2 := h.l2
    show m73B n (m73F n f) _ _ _ _ _ _ _ _ _ _ _ = _
    unfold m73B
    rw [getIdx_D rfl (by omega),oB,hlat i (by omega),show p.Lq.length - i = 0 from by omega]
    have hz0 : latS p i 0 = 0 := rfl
    rw [wrap64 (by omega) (by omega)]
    have e1 : ext p must 0 i left = [[]] := rfl
    have e2 : okE p i left need [] = decide (left < need) := rfl
    by_cases hp : need ≤ left - latS p i 0
    · rw [if_pos (decide_eq_true hp),e1]
      simp only [List.filter_cons,e2,List.filter_nil]
      rw [if_neg (by simp; omega)]
      simp
    · rw [if_neg (by simp; omega),if_pos (decide_eq_true (by omega)),m61_val (by simp; omega) (by simp; omega),oB,e1]
      simp only [List.filter_cons,e2,List.filter_nil]
      rw [if_pos (decide_eq_true (by omega))]
      simp only [List.replicate_zero,List.append_nil,List.map_cons,List.map_nil,List.filter_cons,List.filter_nil]
      unfold m53
      rw [apd_val (by simp; omega),oB]
      cases hq : posL pre with
      | true => simp [gdO,yldC]
      | false => simp [gdO,yldC]
  | m + 1,f + 1,i,left,need,pre,hf,him,hpl,hl0,hl1,hn0,hn1 => by
    have hil : i < p.Lq.length := by omega
    have hl2 := h.l2
    have hd := h.dem hil
    have hz := h.sz hil
    have hk1 := h.k1
    have hlb := latS_bd h (m := m + 1) (i := i) (by omega)
    show m73B n (m73F n f) _ _ _ _ _ _ _ _ _ _ _ = _
    unfold m73B
    rw [getIdx_D rfl (by omega),oB,hlat i (by omega),show p.Lq.length - i = m + 1 from by omega,wrap64 (by omega) (by omega)]
    by_cases hp : need ≤ left - latS p i (m + 1)
    · rw [if_pos (decide_eq_true hp),pruned h (by omega) hp]; rfl
    · rw [if_neg (by simp; omega),if_neg (by simp; omega)]
      unfold jn
      have hlow : (if decide ((i : Int) = must) = true then (1 : Int) else 0) = lowK must i := by unfold lowK; simp
      have hdl : i < p.Dq.length := by rw [h.dl]; exact hil
      have htd : left.tdiv (szP p i) = left / szP p i := Int.tdiv_eq_ediv_of_nonneg hl0
      have hd0 : 0 ≤ left / szP p i := Int.ediv_nonneg hl0 (by omega)
      have hd1 : left / szP p i ≤ left := Int.ediv_le_self _ hl0
      have htop : (if left / szP p i < demP p i then left / szP p i else demP p i) = topK p i left := by unfold topK; exact iteMin _ _
      have key : ∀ low : Int,low = lowK must i → ((getIdx p.Dq (i : Int)).bind fun y_9 => ((m47 n (R23.mk p.Lq p.Dq p.Sq p.Kq) (i : Int)).bind fun y_10 => (asrt (y_10 ≠ 0) (letM ((if (IntKind.wrap .i64 (left.tdiv y_10)) < y_9 then (IntKind.wrap .i64 (left.tdiv y_10)) else y_9)) fun t16_12 =>
          loopM (m73_L1 n (i : Int) left need later (p.Lq.length : Int) must p.Lq p.Dq p.Sq p.Kq (m73F n f) low fun p_65 => ((getIdx p_65 (i : Int)).bind fun y_67 => ((setIdx p_65 (i : Int) (0 : Int)).bind fun l5_68 => (some ([],l5_68))))) n (t16_12,pre ++ List.replicate (m + 1) 0))))) =
          some ((((ext p must (m + 1) i left).filter (okE p i left need)).map (pre ++ ·)).filter posL,pre ++ List.replicate (m + 1) 0) := by
        rintro low rfl
        rw [getIdx_D rfl hdl,oB,mkP,m47_val h rfl hil,oB]
        unfold asrt
        rw [if_pos (by omega),letM_eq,htd,wrap64 (by omega) (by omega)]
        have e9 : p.Dq.getD i 0 = demP p i := rfl
        rw [e9,htop]
        have hlo : 0 ≤ lowK must i ∧ lowK must i ≤ 1 := by unfold lowK; split <;> omega
        have htk : topK p i left ≤ demP p i ∧ topK p i left ≤ left / szP p i ∧ 0 ≤ topK p i left := by unfold topK; omega
        refine (downLoop (A := fun c => pre ++ c :: List.replicate m 0) (lo := lowK must i) (top := topK p i left)
          (F := fun k => (((ext p must m (i + 1) (left - k * szP p i)).filter (okE p (i + 1) (left - k * szP p i) (if k < demP p i then min need (szP p i) else need))).map ((pre ++ [k]) ++ ·)).filter posL)
          (fin := pre ++ List.replicate (m + 1) 0) (fun k c nx h1 h2 => ?_) (fun k c nx h1 => ?_) 1002 n (topK p i left) 0 (by omega) (Int.le_refl _) (by omega)).trans ?_
        · have hk0 : 0 ≤ k := by omega
          have hkm : k * szP p i ≤ left := by
            have h3 : k * szP p i ≤ left / szP p i * szP p i := Int.mul_le_mul_of_nonneg_right (by omega) (by omega)
            have h4 : left / szP p i * szP p i ≤ left := Int.ediv_mul_le _ (by omega)
            omega
          have hkn : 0 ≤ k * szP p i := Int.mul_nonneg hk0 (by omega)
          have hlen : (pre ++ c :: List.replicate m 0).length = p.Lq.length := by simp; omega
          have hmin : (if szP p i < need then szP p i else need) = min need (szP p i) := iteMin _ _
          rw [m73_L1,if_pos (decide_eq_true h1),getIdx_D rfl hdl,oB]
          unfold jn
          dsimp only
          have go : ∀ nxt : Int,0 ≤ nxt → nxt ≤ 2200 → ((getIdx (pre ++ c :: List.replicate m 0) (i : Int)).bind fun y_54 => ((setIdx (pre ++ c :: List.replicate m 0) (i : Int) k).bind fun l5_55 => ((m47 n (R23.mk p.Lq p.Dq p.Sq p.Kq) (i : Int)).bind fun y_56 =>
              (yldsM (m73F n f (IntKind.wrap .i64 ((i : Int) + (1 : Int))) (IntKind.wrap .i64 (left - (IntKind.wrap .i64 (k * y_56)))) nxt later (p.Lq.length : Int) l5_55 must p.Lq p.Dq p.Sq p.Kq) (fun x_58 => (letM ((IntKind.wrap .i64 (k - (1 : Int)))) fun t16_64 => (nx (t16_64,x_58)))))))) =
              (nx (k - 1,pre ++ k :: List.replicate m 0)).map fun q => ((((ext p must m (i + 1) (left - k * szP p i)).filter (okE p (i + 1) (left - k * szP p i) nxt)).map ((pre ++ [k]) ++ ·)).filter posL ++ q.1,q.2) := by
            intro nxt hx0 hx1
            rw [getIdx_at rfl (by omega),oB,setIdx_at rfl (by omega),oB,mkP,m47_val h rfl hil,oB,set_pre hpl,wrap64 (x := (i : Int) + 1) (by omega) (by omega),wrap64 (x := k * szP p i) (by omega) (by omega),wrap64 (x := left - k * szP p i) (by omega) (by omega)]
            have ih := m73F_val h (must := must) hlat hll hn m f (i + 1) (left - k * szP p i) nxt (pre ++ [k]) (by omega) (by omega) (by simp; omega) (by omega) (by omega) hx0 hx1
            have e5 : ((i + 1 : Nat) : Int) = (i : Int) + 1 := by omega
            rw [e5,List.append_assoc,List.singleton_append] at ih
            rw [ih]
            unfold yldsM
            rw [oB]
            dsimp only
            rw [letM_eq,wrap64 (by omega) (by omega)]
          by_cases hkd : k < p.Dq.getD i 0
          · rw [if_pos (decide_eq_true hkd),mkP,m47_val h rfl hil,oB,letM_eq,hmin]
            have := go (min need (szP p i)) (by omega) (by omega)
            rw [mkP,m47_val h rfl hil] at this
            have hkd' : k < demP p i := hkd
            rw [this,if_pos hkd']
          · rw [if_neg (by simpa using hkd)]
            have := go need hn0 hn1
            rw [mkP] at this
            have hkd' : ¬ k < demP p i := hkd
            rw [mkP,this,if_neg hkd']
        · have hlen : (pre ++ c :: List.replicate m 0).length = p.Lq.length := by simp; omega
          rw [m73_L1,if_neg (by simp; omega)]
          dsimp only
          rw [getIdx_at rfl (by omega),oB,setIdx_at rfl (by omega),oB,set_pre hpl]
          rfl
        · congr 2
          rw [filter_succ,List.map_flatMap,List.filter_flatMap]
          congr 1
          funext k
          rw [List.map_map]
          congr 2
          funext s
          simp
      dsimp only
      by_cases hm : decide ((i : Int) = must) = true
      · rw [if_pos hm]; exact key 1 (by rw [← hlow,if_pos hm])
      · rw [if_neg hm]; exact key 0 (by rw [← hlow,if_neg hm])
end Go.AB
