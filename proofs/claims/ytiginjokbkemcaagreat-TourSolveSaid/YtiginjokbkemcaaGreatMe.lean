import Derived.Test.YtiginjokbkemcaaGreatLr
import Derived.Test.YtiginjokbkemcaaGreatLo
set_option linter.unusedVariables false
namespace Go.AB
open Go
def TT : Nat → Int
  | 0 => 1
  | k + 1 => 1 + ((k : Int) + 1) * TT k
theorem TT_pos : ∀ k,1 ≤ TT k
  | 0 => Int.le_refl _
  | k + 1 => by
    have h := TT_pos k
    have : 0 ≤ ((k : Int) + 1) * TT k := Int.mul_nonneg (by omega) (by omega)
    rw [TT]; omega
theorem rd_left {P : R24} {l : List Int} (hg : Good P) (h : Path P l) : (rd P l).length + l.length ≤ P.Pq.length := by
  have hn : (rd P l ++ l).Nodup := by
    refine List.nodup_append.2 ⟨(irange_nodup _).filter _,h.nodup,fun a ha b hb e => ?_⟩
    subst e
    exact (mem_rd.1 ha).2.1 hb
  have := nodup_le hn (S := irange P.Pq.length) fun x hx => by
    rcases List.mem_append.1 hx with hx | hx
    · exact mem_irange.2 (mem_rd.1 hx).1
    · exact mem_irange.2 (h.inP hg x hx)
  rwa [irange_length,List.length_append] at this
theorem sum_fold {α : Type} {g : α → Int} : ∀ (zs : List α) (s : Int),0 ≤ s → (∀ z ∈ zs,0 ≤ g z) → s + (zs.map g).sum ≤ 2000 → 0 ≤ (zs.map g).sum ∧ zs.foldl (fun s z => IntKind.wrap .i64 (s + g z)) s = s + (zs.map g).sum
  | [],s,h0,_,_ => ⟨by simp,by simp⟩
  | z :: zs,s,h0,hz,hs => by
    have h1 := hz z (by simp)
    rw [List.map_cons,List.sum_cons] at hs ⊢
    have hn : 0 ≤ (zs.map g).sum := by
      have : ∀ w : List α,(∀ z ∈ w,0 ≤ g z) → 0 ≤ (w.map g).sum := by
        intro w
        induction w with
        | nil => intro _; simp
        | cons a w ih =>
          intro h
          have := h a (by simp)
          have := ih fun z hz => h z (by simp [hz])
          rw [List.map_cons,List.sum_cons]; omega
      exact this zs fun y hy => hz y (by simp [hy])
    obtain ⟨_,e⟩ := sum_fold zs (s + g z) (by omega) (fun y hy => hz y (by simp [hy])) (by omega)
    refine ⟨by omega,?_⟩
    rw [List.foldl_cons,wrap64 (by omega) (by omega),e]; omega
theorem mxF_bd {g : K41 → Int} {B : Int} : ∀ (zs : List K41) (s : Int),0 ≤ s → s ≤ B → (∀ z ∈ zs,g z ≤ B) → 0 ≤ zs.foldl (fun s z => if g z > s then g z else s) s ∧ zs.foldl (fun s z => if g z > s then g z else s) s ≤ B
  | [],s,h0,h1,_ => ⟨h0,h1⟩
  | z :: zs,s,h0,h1,hz => by
    rw [List.foldl_cons]
    have := hz z (by simp)
    refine mxF_bd zs _ ?_ ?_ fun y hy => hz y (by simp [hy])
    · split <;> omega
    · split <;> omega
structure Gd (n : Nat) (P : R24) (L : Int) (k : Nat) (l : List Int) (y : R41) (t : R30) (v : Int) : Prop where
  own : ∀ N,k < N → ownF N y = t
  nod : ∀ N,k < N → nodF N y = v
  dep : ∀ N,k < N → 0 ≤ depF N y ∧ depF N y ≤ (k : Int) + 1
  frm : ∀ N,k < N → frmF N y = true
  fit : ∀ N,k < N → Fit n N y
  wr : ∀ N,k < N → m62F n N ⟨P,l,L⟩ y = some ([],false)
theorem fuel {Q : Nat → Prop} {k : Nat} (h : ∀ N,k ≤ N → Q (N + 1)) : ∀ N,k < N → Q N := fun N hN => by
  obtain ⟨q,rfl⟩ : ∃ q,N = q + 1 := ⟨N - 1,by omega⟩
  exact h q (by omega)
theorem m87_leaf {n : Nat} {P : R24} {l m : List Int} {L v : Int} (hl : l.length ≤ 1000) (h20 : P.Pq.length ≤ 20) (hn : 2000 < n) (hp : posB P l L = true) (hm : OKm P m) (hv : BD P l m v) (hb : L ≤ v) : m87 n ⟨P,l,L⟩ m = some true := by
  obtain ⟨h1,h2,_⟩ := posB_iff.1 hp
  have hml := hm.len
  obtain ⟨w,q3,q4⟩ := m98_val (n := n) (L := L) h1 h2 hm h20 hn
  obtain rfl := hv.uniq q3
  unfold m87
  dsimp only
  rw [eta24,m60_val hl hn,Option.bind_some,hp,gdO_true,m97_val (by omega) hn,Option.bind_some,okM_iff.2 hm,show (true && true) = true from rfl,gdO_true,q4,Option.bind_some,decide_eq_true hb]
  rfl
theorem leafB {P : R24} {m : List Int} (hm : OKm P m) (h20 : P.Pq.length ≤ 20) : nodeB ⟨0,[],m⟩ = true := by
  have hml := hm.len
  refine nodeB_iff.2 ⟨show smB 0 = true from by decide,by show (0 : Nat) ≤ 100; omega,by show m.length ≤ 40; omega,.inl rfl,.inr rfl,?_⟩
  rw [List.all_eq_true]
  intro x hx
  have := hm.2 x hx
  unfold smB
  rw [decide_eq_true (by omega),decide_eq_true (by omega)]; rfl
theorem gd_leaf {n : Nat} {P : R24} {l m : List Int} {L v : Int} (hl : l.length ≤ 1000) (h20 : P.Pq.length ≤ 20) (hn : 2000 < n) (hp : posB P l L = true) (hm : OKm P m) (hv : BD P l m v) (hb : L ≤ v) (k : Nat) : Gd n P L k l ⟨0,[],m⟩ ⟨0,[],m⟩ 1 where
  own := fuel fun N _ => rfl
  nod := fuel fun N _ => rfl
  dep := fuel fun N _ => by
    show 0 ≤ IntKind.wrap .i64 (0 + 1) ∧ IntKind.wrap .i64 (0 + 1) ≤ (k : Int) + 1
    rw [wrap64 (by omega) (by omega)]; omega
  frm := fuel fun N _ => by
    show (nodeB ⟨0,[],m⟩ && _) = true
    rw [leafB hm h20]; rfl
  fit := fuel fun N _ => ⟨by show 0 < n; omega,by show (0 : Nat) ≤ _; omega,fun z hz => by cases hz⟩
  wr := fuel fun N _ => by
    unfold m62F m62B
    dsimp only
    rw [if_pos (show decide ((([] : List K41).length : Int) = 0) = true from rfl),eta24,m87_leaf hl h20 hn hp hm hv hb]
    rfl
theorem m23_val {n : Nat} {P : R24} {l m0 m1 : List Int} {L : Int} (hg : Good P) (hp : Path P l) (h0 : OKm P m0) (h1 : OKm P m1) (h20 : P.Pq.length ≤ 20) (hn : 2000 < n) :
    (∃ m v,OKm P m ∧ BD P l m v ∧ L ≤ v ∧ m23 n ⟨P,l,L⟩ [m0,m1] P.Pq P.Bq = some ⟨2,0,m⟩) ∨
      (∃ v,BD P l m0 v ∧ ¬ L ≤ v ∧ m23 n ⟨P,l,L⟩ [m0,m1] P.Pq P.Bq = some (if l.length = P.Pq.length then ⟨0,0,[]⟩ else ⟨1,0,[]⟩)) := by
  obtain ⟨v,q1,q2⟩ := m24_val (n := n) (L := L) hg hp h0 h20 hn
  obtain ⟨w,q3,q4⟩ := m24_val (n := n) (L := L) hg hp h1 h20 hn
  have g0 : getIdx [m0,m1] (0 : Int) = some m0 := rfl
  have g1 : getIdx [m0,m1] (1 : Int) = some m1 := rfl
  have w0 : IntKind.wrap .i64 ((0 : Int) + 1) = 1 := by decide
  have w1 : IntKind.wrap .i64 ((1 : Int) + 1) = 2 := by decide
  unfold m23
  dsimp only
  rw [jn]
  obtain ⟨n1,rfl⟩ : ∃ n1,n = n1 + 3 := ⟨n - 3,by omega⟩
  rw [loopM_succ,m23_L1,if_pos (show decide ((0 : Int) < (([m0,m1] : List (List Int)).length : Int)) = true from rfl),g0,Option.bind_some]
  dsimp only
  rw [eta24,q2,Option.bind_some]
  by_cases hv : L ≤ v
  · rw [if_pos (decide_eq_true hv)]
    exact .inl ⟨_,_,h0,q1,hv,rfl⟩
  · rw [if_neg (by simpa using hv),letM_eq,w0,loopM_succ,m23_L1,if_pos (show decide ((1 : Int) < (([m0,m1] : List (List Int)).length : Int)) = true from rfl),g1,Option.bind_some]
    dsimp only
    rw [eta24,q4,Option.bind_some]
    by_cases hw : L ≤ w
    · rw [if_pos (decide_eq_true hw)]
      exact .inl ⟨_,_,h1,q3,hw,rfl⟩
    · rw [if_neg (by simpa using hw),letM_eq,w1,loopM_succ,m23_L1,if_neg (show ¬ decide ((2 : Int) < (([m0,m1] : List (List Int)).length : Int)) = true from by simp)]
      refine .inr ⟨v,q1,hv,?_⟩
      by_cases h : l.length = P.Pq.length
      · rw [if_pos (decide_eq_true (by omega)),if_pos h]
      · rw [if_neg (by rw [decide_eq_true_eq]; omega),if_neg h]
structure LI (n : Nat) (P : R24) (L : Int) (k : Nat) (l : List Int) (c : Int) (i : Nat) (ci : Int) (ts : List K30) (ys : List R41) : Prop where
  len : ys.length = i
  own : ∀ N,k < N → ys.map (fun y => K30.of (ownF N y)) = ts
  nod : ∀ N,k < N → (ys.map (nodF N)).sum = ci - c ∧ ∀ y ∈ ys,0 ≤ nodF N y
  dep : ∀ N,k < N → ∀ y ∈ ys,depF N y ≤ (k : Int) + 1
  frm : ∀ N,k < N → ∀ y ∈ ys,frmF N y = true
  fit : ∀ N,k < N → ∀ y ∈ ys,Fit n N y
  wr : ∀ N,k < N → ∀ (j : Nat) x y,(rd P l)[j]? = some x → ys[j]? = some y → m62F n N ⟨P,l ++ [x],L⟩ y = some ([],false)
  lo : c ≤ ci
  hi : ci ≤ c + (i : Int) * TT k
theorem LI.start {n : Nat} {P : R24} {L : Int} {k : Nat} {l : List Int} {c : Int} : LI n P L k l c 0 c [] [] :=
  ⟨rfl,fun _ _ => rfl,fun _ _ => ⟨by simp,by simp⟩,fun _ _ => by simp,fun _ _ => by simp,fun _ _ => by simp,fun _ _ j x y _ h => by simp at h,Int.le_refl _,by simp⟩
theorem LI.step {n : Nat} {P : R24} {L : Int} {k : Nat} {l : List Int} {c : Int} {i : Nat} {ci : Int} {ts : List K30} {ys : List R41} (h : LI n P L k l c i ci ts ys) {y : R41} {t : R30} {c' x : Int} (hx : (rd P l)[i]? = some x) (hg : Gd n P L k (l ++ [x]) y t (c' - ci)) (h1 : ci ≤ c') (h2 : c' ≤ ci + TT k) :
    LI n P L k l c (i + 1) c' (ts ++ [K30.of t]) (ys ++ [y]) where
  len := by simp [h.len]
  own := fun N hN => by rw [List.map_append,h.own N hN,List.map_singleton,hg.own N hN]
  nod := fun N hN => by
    obtain ⟨q1,q2⟩ := h.nod N hN
    have q3 := hg.nod N hN
    refine ⟨?_,fun z hz => ?_⟩
    · rw [List.map_append,List.sum_append,q1,List.map_singleton,q3]
      simp; omega
    · rcases List.mem_append.1 hz with hz | hz
      · exact q2 z hz
      · rw [List.mem_singleton.1 hz,q3]; omega
  dep := fun N hN z hz => by
    rcases List.mem_append.1 hz with hz | hz
    · exact h.dep N hN z hz
    · rw [List.mem_singleton.1 hz]; exact (hg.dep N hN).2
  frm := fun N hN z hz => by
    rcases List.mem_append.1 hz with hz | hz
    · exact h.frm N hN z hz
    · rw [List.mem_singleton.1 hz]; exact hg.frm N hN
  fit := fun N hN z hz => by
    rcases List.mem_append.1 hz with hz | hz
    · exact h.fit N hN z hz
    · rw [List.mem_singleton.1 hz]; exact hg.fit N hN
  wr := fun N hN j x' z hj hz => by
    rcases Nat.lt_or_ge j i with hji | hji
    · rw [List.getElem?_append_left (by rw [h.len]; exact hji)] at hz
      exact h.wr N hN j x' z hj hz
    · rw [List.getElem?_append_right (by rw [h.len]; exact hji),h.len] at hz
      have : j = i := by
        have := (List.getElem?_eq_some_iff.1 hz).1
        simp at this; omega
      subst this
      rw [hx] at hj
      cases hj
      simp at hz
      subst hz
      exact hg.wr N hN
  lo := by have := h.lo; omega
  hi := by
    have := h.hi
    have e : ((i + 1 : Nat) : Int) * TT k = (i : Int) * TT k + TT k := by rw [Int.natCast_add,Int.add_mul]; simp
    rw [e]; omega
theorem gd_node {n : Nat} (hn : 2000 < n) {P : R24} {L : Int} {k : Nat} {l : List Int} {c c' : Int} {ts : List K30} {ys : List R41} (hk0 : 0 < ys.length) (hk : ys.length ≤ 20) (hk7 : k < 20) (h20 : P.Pq.length ≤ 20) (hl : l.length < P.Pq.length) (hp : posB P l L = true) (h : LI n P L k l c (rd P l).length c' ts ys) (hc : 1 + (c' - c) ≤ 2000) :
    Gd n P L (k + 1) l ⟨0,ys.map K41.of,[]⟩ ⟨0,ts,[]⟩ (1 + (c' - c)) where
  own := fuel fun N hN => by
    have := h.own N (by omega)
    show R30.mk 0 ((ys.map K41.of).map fun z => K30.of (ownF N z.out)) [] = _
    rw [List.map_map]
    rw [← this]
    rfl
  nod := fuel fun N hN => by
    obtain ⟨q1,q2⟩ := h.nod N (by omega)
    show (ys.map K41.of).foldl (fun s z => IntKind.wrap .i64 (s + nodF N z.out)) 1 = _
    rw [List.foldl_map]
    have := (sum_fold (g := nodF N) ys 1 (by omega) q2 (by rw [q1]; exact hc)).2
    rw [q1] at this
    exact this
  dep := fuel fun N hN => by
    show 0 ≤ IntKind.wrap .i64 (mxF (fun z => depF N z.out) (ys.map K41.of) + 1) ∧ IntKind.wrap .i64 (mxF (fun z => depF N z.out) (ys.map K41.of) + 1) ≤ _
    have := mxF_bd (g := fun z => depF N z.out) (B := (k : Int) + 1) (ys.map K41.of) 0 (by omega) (by omega) fun z hz => by
      obtain ⟨y,hy,rfl⟩ := List.mem_map.1 hz
      exact h.dep N (by omega) y hy
    have e : mxF (fun z => depF N z.out) (ys.map K41.of) = (ys.map K41.of).foldl (fun s z => if depF N z.out > s then depF N z.out else s) 0 := rfl
    rw [e]
    generalize (ys.map K41.of).foldl (fun s z => if depF N z.out > s then depF N z.out else s) 0 = q at this ⊢
    rw [wrap64 (by omega) (by omega)]
    omega
  frm := fuel fun N hN => by
    show (nodeB _ && _) = true
    rw [nodeB_iff.2 ⟨rfl,by show (ys.map K41.of).length ≤ 100; rw [List.length_map]; omega,by show (0 : Nat) ≤ 40; omega,.inr rfl,.inr rfl,rfl⟩,Bool.true_and,List.all_eq_true]
    intro z hz
    obtain ⟨y,hy,rfl⟩ := List.mem_map.1 hz
    exact h.frm N (by omega) y hy
  fit := fuel fun N hN => ⟨by show (ys.map K41.of).length < n; rw [List.length_map]; omega,by show (ys.map K41.of).length ≤ _; rw [List.length_map]; omega,fun z hz => by
    obtain ⟨y,hy,rfl⟩ := List.mem_map.1 hz
    exact h.fit N (by omega) y hy⟩
  wr := fuel fun N hN => by
    have hrl : (rd P l).length = ys.length := h.len.symm
    have hs : spB P l L 0 = true := by
      unfold spB
      rw [hp,decide_eq_true (show (0 : Int) = 0 from rfl),decide_eq_false (show ¬ (l.length : Int) = P.Pq.length by omega)]; rfl
    unfold m62F m62B
    dsimp only
    rw [if_neg (by rw [decide_eq_true_eq,List.length_map]; omega),eta24,m88_val (by omega) hn,if_pos hs,Option.bind_some]
    dsimp only
    rw [List.length_map,List.length_map,if_neg (by simp [hrl]),jn]
    refine loop_run (fun i => (i : Int)) (rd P l).length _ rfl (fun i hi nx => ?_) (fun nx => ?_) (by omega)
    · have hy : i < ys.length := by omega
      rw [m62_L1]
      dsimp only
      rw [List.length_map,if_pos (decide_eq_true (by omega)),map_at hi,Option.bind_some,getIdx_at rfl (by rw [List.length_map]; exact hy),Option.bind_some,List.getElem_map]
      have := h.wr N (by omega) i _ _ (List.getElem?_eq_getElem hi) (List.getElem?_eq_getElem hy)
      dsimp only [ext75]
      rw [eta24,show m62F n N ⟨P,l ++ [(rd P l)[i]],L⟩ (R41.mk (K41.of ys[i]).out.Sp (K41.of ys[i]).out.Kd (K41.of ys[i]).out.Lf) = _ from this,Option.bind_some,if_neg (by simp),letM_eq,wInc (by omega)]
    · rw [m62_L1]
      dsimp only
      rw [List.length_map,if_neg (by simp)]
def Low (P : R24) (L : Int) : Prop := ∀ o,permB P o = true → L ≤ tourL P o
theorem build_ok {n : Nat} (hn : 2000 < n) {P : R24} {L : Int} {m0 m1 : List Int} (hv : vP P = true) (h9 : P.Pq.length ≤ 9) (hb1 : (-1073741824 : Int) ≤ L) (hb2 : L ≤ 1073741824) (h0 : OKm P m0) (h1 : OKm P m1) :
    ∀ (k f : Nat) (l : List Int) (dp c : Int),l.length + k = P.Pq.length → Path P l → k < f → 1 ≤ dp → dp + (k : Int) ≤ 20 → 0 ≤ c → c ≤ 2000 →
      ∃ t e c',m50F n f ⟨P,l,L⟩ dp c [m0,m1] P.Pq P.Bq = some (t,e,c') ∧ ((e ≠ 0 ∧ (Low P L → 2000 < c + TT k)) ∨ (e = 0 ∧ c' ≤ 2000 ∧ c ≤ c' ∧ c' ≤ c + TT k ∧ ∃ y,Gd n P L k l y t (c' - c))) := by
  have hg := good_of hv
  intro k
  induction k with
  | zero =>
    rintro (_ | f) l dp c hk hpa hf hdp1 hdp2 hc0 hc1
    · omega
    have hp : posB P l L = true := posB_iff.2 ⟨hv,hpa,hb1,hb2⟩
    unfold m50F m50B
    rw [letM_eq,wrap64 (by omega) (by omega)]
    by_cases hcc : 2000 < c + 1
    · rw [if_pos (by simp [hcc])]
      exact ⟨_,_,_,rfl,.inl ⟨by decide,fun _ => hcc⟩⟩
    · rw [if_neg (by simp; omega)]
      dsimp only
      rw [eta24]
      rcases m23_val (n := n) (L := L) hg hpa h0 h1 (by omega) hn with ⟨m,v,hm,hbd,hLv,e⟩ | ⟨v,hbd,hLv,e⟩
      · have hml := hm.len
        rw [e,Option.bind_some]
        dsimp only
        rw [if_pos (show decide ((2 : Int) = 2) = true from rfl),m43_val (by omega),Option.bind_some,show m51 n (R30.mk 0 [] m) = _ from m51_val (f := 0) (by omega) (R41.mk 0 [] m),Option.bind_some,leafB hm (by omega),if_neg (by simp)]
        exact ⟨_,_,_,rfl,.inr ⟨rfl,by omega,by omega,by show c + 1 ≤ c + 1; omega,_,by rw [show c + 1 - c = 1 from by omega]; exact gd_leaf (by omega) (by omega) hn hp hm hbd hLv 0⟩⟩
      · rw [if_pos (show l.length = P.Pq.length from by omega)] at e
        rw [e,Option.bind_some]
        dsimp only
        rw [if_neg (show ¬ decide ((0 : Int) = 2) = true from by decide),if_neg (show ¬ decide ((0 : Int) = 1) = true from by decide)]
        refine ⟨_,_,_,rfl,.inl ⟨by decide,fun hL => absurd ?_ hLv⟩⟩
        rcases hbd with ⟨_,rfl⟩ | ⟨h,_⟩ | ⟨h,_⟩
        · exact hL l (permB_iff.2 ⟨by omega,hpa⟩)
        · exact absurd (by omega) h
        · exact absurd (by omega) h
  | succ k ih =>
    rintro (_ | f) l dp c hk hpa hf hdp1 hdp2 hc0 hc1
    · omega
    have hp : posB P l L = true := posB_iff.2 ⟨hv,hpa,hb1,hb2⟩
    have hT := TT_pos (k + 1)
    unfold m50F m50B
    rw [letM_eq,wrap64 (by omega) (by omega)]
    by_cases hcc : 2000 < c + 1
    · rw [if_pos (by simp [hcc])]
      exact ⟨_,_,_,rfl,.inl ⟨by decide,fun _ => by omega⟩⟩
    · rw [if_neg (by simp; omega)]
      dsimp only
      rw [eta24]
      rcases m23_val (n := n) (L := L) hg hpa h0 h1 (by omega) hn with ⟨m,v,hm,hbd,hLv,e⟩ | ⟨v,hbd,hLv,e⟩
      · have hml := hm.len
        rw [e,Option.bind_some]
        dsimp only
        rw [if_pos (show decide ((2 : Int) = 2) = true from rfl),m43_val (by omega),Option.bind_some,show m51 n (R30.mk 0 [] m) = _ from m51_val (f := 0) (by omega) (R41.mk 0 [] m),Option.bind_some,leafB hm (by omega),if_neg (by simp)]
        exact ⟨_,_,_,rfl,.inr ⟨rfl,by omega,by omega,by omega,_,by rw [show c + 1 - c = 1 from by omega]; exact gd_leaf (by omega) (by omega) hn hp hm hbd hLv _⟩⟩
      · have hrl := rd_left hg hpa
        have hr0 := List.length_pos_iff.2 (hg.next hpa.zero (by omega))
        have hs : spB P l L 0 = true := by
          unfold spB
          rw [hp,decide_eq_true (show (0 : Int) = 0 from rfl),decide_eq_false (show ¬ (l.length : Int) = P.Pq.length by omega)]; rfl
        rw [if_neg (show ¬ l.length = P.Pq.length from by omega)] at e
        rw [e,Option.bind_some]
        dsimp only
        rw [if_neg (show ¬ decide ((1 : Int) = 2) = true from by decide),if_pos (show decide ((1 : Int) = 1) = true from rfl),m22_val (by omega) hn,if_pos hs,Option.bind_some]
        dsimp only
        rw [List.length_map,if_neg (by rw [decide_eq_false (show ¬ ((rd P l).length : Int) = 0 by omega)]; simp),decide_eq_false (show ¬ (100 : Int) < ((rd P l).length : Int) by omega),Bool.not_false,gdO_true,show m52 n 0 = some true from rfl,Option.bind_some,if_neg (by simp),jn]
        have hTT : TT (k + 1) = 1 + ((k : Int) + 1) * TT k := rfl
        have hTk := TT_pos k
        have key : ∀ (r i nn : Nat) (ci : Int) (ts : List K30) (ys : List R41),i + r = (rd P l).length → r < nn → ci ≤ 2000 → LI n P L k l (c + 1) i ci ts ys →
            ∃ t e c',loopM (m50_L1 n dp [m0,m1] P.Pq P.Bq (m50F n f) ((rd P l).map (ext64 P l L),true) (fun p_23 => some (R30.mk 0 p_23.2 [],0,p_23.1))) nn ((i : Int),ci,ts) = some (t,e,c') ∧
              ((e ≠ 0 ∧ (Low P L → 2000 < c + TT (k + 1))) ∨ (e = 0 ∧ c' ≤ 2000 ∧ ∃ ts' ys',t = R30.mk 0 ts' [] ∧ LI n P L k l (c + 1) (rd P l).length c' ts' ys')) := by
          intro r
          induction r with
          | zero =>
            rintro i (_ | nn) ci ts ys hir hnn hci hI
            · omega
            have : i = (rd P l).length := by omega
            subst this
            rw [loopM_succ,m50_L1]
            dsimp only
            rw [List.length_map,if_neg (by simp)]
            exact ⟨_,_,_,rfl,.inr ⟨rfl,hci,_,_,rfl,hI⟩⟩
          | succ r ihr =>
            rintro i (_ | nn) ci ts ys hir hnn hci hI
            · omega
            have hi : i < (rd P l).length := by omega
            have hlo := hI.lo
            have hhi := hI.hi
            have hx := List.getElem_mem hi
            obtain ⟨t,e',c',q1,q2⟩ := ih f (l ++ [(rd P l)[i]]) (dp + 1) ci (by simp; omega) (hpa.snoc hx) (by omega) (by omega) (by omega) (by omega) hci
            have hmul : (i : Int) * TT k + TT k ≤ ((k : Int) + 1) * TT k := by
              have : ((i : Int) + 1) * TT k ≤ ((k : Int) + 1) * TT k := Int.mul_le_mul_of_nonneg_right (by omega) (by omega)
              rw [Int.add_mul,Int.one_mul] at this
              exact this
            rw [loopM_succ,m50_L1]
            dsimp only
            rw [List.length_map,if_pos (decide_eq_true (by omega)),map_at hi,Option.bind_some]
            dsimp only [ext64]
            rw [eta24,wrap64 (by omega) (by omega),q1,Option.bind_some]
            dsimp only
            rcases q2 with ⟨he,q3⟩ | ⟨rfl,q3,q4,q5,y,hgd⟩
            · rw [if_pos (by simp [he])]
              exact ⟨_,_,_,rfl,.inl ⟨he,fun hL => by have := q3 hL; omega⟩⟩
            · rw [if_neg (show ¬ (!decide ((0 : Int) = 0)) = true from by simp)]
              have htl : ts.length = i := by rw [← hI.own (k + 1) (by omega),List.length_map,hI.len]
              unfold apk
              rw [if_pos (by simp; omega),Option.bind_some,letM_eq,wInc (by omega)]
              exact ihr (i + 1) nn c' (ts ++ [K30.of t]) (ys ++ [y]) (by omega) (by omega) q3 (hI.step (List.getElem?_eq_getElem hi) hgd q4 q5)
        obtain ⟨t,e',c',q1,q2⟩ := key (rd P l).length 0 n (c + 1) [] [] (by omega) (by omega) (by omega) LI.start
        refine ⟨t,e',c',q1,?_⟩
        rcases q2 with q | ⟨rfl,q3,ts',ys',rfl,hI⟩
        · exact .inl q
        · have hlo := hI.lo
          have hhi := hI.hi
          have hlen := hI.len
          have hmul : ((rd P l).length : Int) * TT k ≤ ((k : Int) + 1) * TT k := Int.mul_le_mul_of_nonneg_right (by omega) (by omega)
          have hgd := gd_node hn (by omega) (by omega) (by omega) (by omega) (by omega) hp hI (by omega)
          rw [show 1 + (c' - (c + 1)) = c' - c from by omega] at hgd
          exact .inr ⟨rfl,q3,by omega,by omega,_,hgd⟩
end Go.AB
