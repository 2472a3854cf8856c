import Derived.Test.YtpccmcepgllccaaGreatMd
set_option linter.unusedVariables false
namespace Go.AB
open Go
def TT : Nat → Int
  | 0 => 1
  | k + 1 => 1 + ((k : Int) + 1) * TT k
theorem TT_pos : ∀ k,1 ≤ TT k
  | 0 => Int.le_refl _
  | k + 1 => by
    have h := TT_pos k
    have : 0 ≤ ((k : Int) + 1) * TT k := Int.mul_nonneg (by omega) (by omega)
    rw [TT]; omega
theorem mem_rdI {l : List R63} {d : List Int} {x : Int} : x ∈ rdI l d ↔ (0 ≤ x ∧ x < (l.length : Int)) ∧ x ∉ d := by
  unfold rdI
  rw [List.mem_filter,List.mem_map]
  simp only [Bool.not_eq_true',decide_eq_false_iff_not]
  constructor
  · rintro ⟨⟨i,hi,rfl⟩,h⟩
    have := List.mem_range.1 hi
    exact ⟨by omega,h⟩
  · rintro ⟨⟨h0,h1⟩,h⟩
    exact ⟨⟨x.toNat,List.mem_range.2 (by omega),by omega⟩,h⟩
theorem rdI_len {l : List R63} {d : List Int} (hd : ordB l.length d = true) (hl : l.length ≤ 1000) : d.length + (rdI l d).length = l.length := by
  have hdl := nodup_le _ _ (ord_iff.1 hd).1 (ord_iff.1 hd).2
  obtain ⟨o,_,hc,q,rfl⟩ := m16_val (n := 3000) (ch := []) hd hl (by omega) hdl
  have := (rd_perm hc).length_eq
  have h2 := hc.2
  rw [List.length_append] at h2
  omega
theorem ord_snocR {l : List R63} {d : List Int} {x : Int} (hd : ordB l.length d = true) (hx : x ∈ rdI l d) : ordB l.length (d ++ [x]) = true := by
  obtain ⟨h1,h2⟩ := ord_iff.1 hd
  obtain ⟨hx1,hx2⟩ := mem_rdI.1 hx
  refine ord_iff.2 ⟨List.nodup_append.2 ⟨h1,List.nodup_cons.2 ⟨by simp,List.nodup_nil⟩,fun a ha b hb => ?_⟩,fun y hy => ?_⟩
  · rw [List.mem_singleton.1 hb]
    intro e
    exact hx2 (e ▸ ha)
  · rcases List.mem_append.1 hy with h | h
    · exact h2 y h
    · rw [List.mem_singleton.1 h]; exact hx1
theorem sum_fold {α : Type} {g : α → Int} : ∀ (zs : List α) (s : Int),0 ≤ s → (∀ z ∈ zs,0 ≤ g z) → s + (zs.map g).sum ≤ 2000 → 0 ≤ (zs.map g).sum ∧ zs.foldl (fun s z => IntKind.wrap .i64 (s + g z)) s = s + (zs.map g).sum
  | [],s,h0,_,_ => ⟨by simp,by simp⟩
  | z :: zs,s,h0,hz,hs => by
    have h1 := hz z (by simp)
    rw [List.map_cons,List.sum_cons] at hs ⊢
    have hn : 0 ≤ (zs.map g).sum := by
      have : ∀ w : List α,(∀ z ∈ w,0 ≤ g z) → 0 ≤ (w.map g).sum := by
        intro w
        induction w with
        | nil => intro _; simp
        | cons a w ih =>
          intro h
          have := h a (by simp)
          have := ih fun z hz => h z (by simp [hz])
          rw [List.map_cons,List.sum_cons]; omega
      exact this zs fun y hy => hz y (by simp [hy])
    obtain ⟨_,e⟩ := sum_fold zs (s + g z) (by omega) (fun y hy => hz y (by simp [hy])) (by omega)
    refine ⟨by omega,?_⟩
    rw [List.foldl_cons,wrap64 (by omega) (by omega),e]; omega
theorem mxF_bd {g : K27 → Int} {B : Int} : ∀ (zs : List K27) (s : Int),0 ≤ s → s ≤ B → (∀ z ∈ zs,g z ≤ B) → 0 ≤ zs.foldl (fun s z => if g z > s then g z else s) s ∧ zs.foldl (fun s z => if g z > s then g z else s) s ≤ B
  | [],s,h0,h1,_ => ⟨h0,h1⟩
  | z :: zs,s,h0,h1,hz => by
    rw [List.foldl_cons]
    have := hz z (by simp)
    refine mxF_bd zs _ ?_ ?_ fun y hy => hz y (by simp [hy])
    · split <;> omega
    · split <;> omega
structure Gd (n : Nat) (l : List R63) (m : Bool) (L : Int) (k : Nat) (d : List Int) (y : R27) (t : R40) (v : Int) : Prop where
  own : ∀ N,k < N → ownF N y = t
  nod : ∀ N,k < N → nodF N y = v
  dep : ∀ N,k < N → 0 ≤ depF N y ∧ depF N y ≤ (k : Int) + 1
  frm : ∀ N,k < N → frmF N y = true
  fit : ∀ N,k < N → Fit n N y
  wr : ∀ N,k < N → m33F n N ⟨l,d,m,L⟩ y = some ([],false)
theorem fuel {Q : Nat → Prop} {k : Nat} (h : ∀ N,k ≤ N → Q (N + 1)) : ∀ N,k < N → Q N := fun N hN => by
  obtain ⟨q,rfl⟩ : ∃ q,N = q + 1 := ⟨N - 1,by omega⟩
  exact h q (by omega)
theorem m55_leaf {n : Nat} {l : List R63} {d : List Int} {m : Bool} {b v : Int} (hl : l.length ≤ 12) (hd : d.length ≤ 1000) (hn : 6000 < n) (hp : possB l d b = true) (hv : Prv l d m v) (hb : b ≤ v) : m55 n ⟨l,d,m,b⟩ [] = some true := by
  obtain ⟨h1,_,h3⟩ := poss_iff hp
  obtain ⟨w,e2,p2⟩ := m70_val (n := n) (b := b) (m := m) h1 h3 hl hn
  unfold m55
  dsimp only
  rw [m31_val (by omega) hd (by omega),Option.bind_some,hp,show (true && decide ((([] : List Int).length : Int) = (0 : Int))) = true from rfl,gdO_true,e2,Option.bind_some,p2.uniq hv,decide_eq_true hb]
  rfl
theorem leafB : nodeB ⟨0,[],[]⟩ = true := by decide
theorem gd_leaf {n : Nat} {l : List R63} {d : List Int} {m : Bool} {b v : Int} (hl : l.length ≤ 12) (hd : d.length ≤ 1000) (hn : 6000 < n) (hp : possB l d b = true) (hv : Prv l d m v) (hb : b ≤ v) (k : Nat) : Gd n l m b k d ⟨0,[],[]⟩ ⟨0,[],[]⟩ 1 where
  own := fuel fun N _ => rfl
  nod := fuel fun N _ => rfl
  dep := fuel fun N _ => by
    show 0 ≤ IntKind.wrap .i64 (0 + 1) ∧ IntKind.wrap .i64 (0 + 1) ≤ (k : Int) + 1
    rw [wrap64 (by omega) (by omega)]; omega
  frm := fuel fun N _ => by
    show (nodeB ⟨0,[],[]⟩ && _) = true
    rw [leafB]; rfl
  fit := fuel fun N _ => ⟨by show 0 < n; omega,by show (0 : Nat) ≤ _; omega,fun z hz => by cases hz⟩
  wr := fuel fun N _ => by
    unfold m33F m33B
    dsimp only
    rw [if_pos (show decide ((([] : List K27).length : Int) = 0) = true from rfl),m55_leaf hl hd hn hp hv hb]
    rfl
theorem m41_val {n : Nat} {l : List R63} {d : List Int} {m : Bool} {b : Int} (hv : vld l = true) (hd : ordB l.length d = true) (hl : l.length ≤ 12) (hn : 6000 < n) : ∃ v,Prv l d m v ∧ m41 n ⟨l,d,m,b⟩ = some (if b ≤ v then ⟨2,0,[]⟩ else ⟨1,0,[]⟩) := by
  obtain ⟨v,e,p⟩ := m42_val (n := n) (b := b) (m := m) hv hd hl hn
  refine ⟨v,p,?_⟩
  unfold m41
  dsimp only
  rw [e,Option.bind_some]
  by_cases h : b ≤ v
  · rw [if_pos (decide_eq_true h),if_pos h]
  · rw [if_neg (by simpa using h),if_neg h]
theorem Prv.full {l : List R63} {d : List Int} {m : Bool} {v : Int} (h : Prv l d m v) (hl : l.length ≤ 1000) (hc : comp l d) : v = val l d m := by
  have hr : rst l d = [] := by
    have := rdI_len hc.1 hl
    rw [rst_eq,List.eq_nil_of_length_eq_zero (show (rdI l d).length = 0 by have := hc.2; omega)]; rfl
  unfold Prv at h
  cases m with
  | true => rw [if_pos rfl,if_pos hr] at h; exact h
  | false =>
    rw [if_neg (by simp)] at h
    obtain ⟨o,_,ho,e⟩ := h
    rw [hr] at e
    rw [e]
    unfold sumB
    simp [sumN]
structure LI (n : Nat) (l : List R63) (m : Bool) (L : Int) (k : Nat) (d : List Int) (c : Int) (i : Nat) (ci : Int) (ts : List K40) (ys : List R27) : Prop where
  len : ys.length = i
  own : ∀ N,k < N → ys.map (fun y => K40.of (ownF N y)) = ts
  nod : ∀ N,k < N → (ys.map (nodF N)).sum = ci - c ∧ ∀ y ∈ ys,0 ≤ nodF N y
  dep : ∀ N,k < N → ∀ y ∈ ys,depF N y ≤ (k : Int) + 1
  frm : ∀ N,k < N → ∀ y ∈ ys,frmF N y = true
  fit : ∀ N,k < N → ∀ y ∈ ys,Fit n N y
  wr : ∀ N,k < N → ∀ (j : Nat) x y,(rdI l d)[j]? = some x → ys[j]? = some y → m33F n N ⟨l,d ++ [x],m,L⟩ y = some ([],false)
  lo : c ≤ ci
  hi : ci ≤ c + (i : Int) * TT k
theorem LI.start {n : Nat} {l : List R63} {m : Bool} {L : Int} {k : Nat} {d : List Int} {c : Int} : LI n l m L k d c 0 c [] [] :=
  ⟨rfl,fun _ _ => rfl,fun _ _ => ⟨by simp,by simp⟩,fun _ _ => by simp,fun _ _ => by simp,fun _ _ => by simp,fun _ _ j x y _ h => by simp at h,Int.le_refl _,by simp⟩
theorem LI.step {n : Nat} {l : List R63} {m : Bool} {L : Int} {k : Nat} {d : List Int} {c : Int} {i : Nat} {ci : Int} {ts : List K40} {ys : List R27} (h : LI n l m L k d c i ci ts ys) {y : R27} {t : R40} {c' x : Int} (hx : (rdI l d)[i]? = some x) (hg : Gd n l m L k (d ++ [x]) y t (c' - ci)) (h1 : ci ≤ c') (h2 : c' ≤ ci + TT k) :
    LI n l m L k d c (i + 1) c' (ts ++ [K40.of t]) (ys ++ [y]) where
  len := by simp [h.len]
  own := fun N hN => by rw [List.map_append,h.own N hN,List.map_singleton,hg.own N hN]
  nod := fun N hN => by
    obtain ⟨q1,q2⟩ := h.nod N hN
    have q3 := hg.nod N hN
    refine ⟨?_,fun z hz => ?_⟩
    · rw [List.map_append,List.sum_append,q1,List.map_singleton,q3]
      simp; omega
    · rcases List.mem_append.1 hz with hz | hz
      · exact q2 z hz
      · rw [List.mem_singleton.1 hz,q3]; omega
  dep := fun N hN z hz => by
    rcases List.mem_append.1 hz with hz | hz
    · exact h.dep N hN z hz
    · rw [List.mem_singleton.1 hz]; exact (hg.dep N hN).2
  frm := fun N hN z hz => by
    rcases List.mem_append.1 hz with hz | hz
    · exact h.frm N hN z hz
    · rw [List.mem_singleton.1 hz]; exact hg.frm N hN
  fit := fun N hN z hz => by
    rcases List.mem_append.1 hz with hz | hz
    · exact h.fit N hN z hz
    · rw [List.mem_singleton.1 hz]; exact hg.fit N hN
  wr := fun N hN j x' z hj hz => by
    rcases Nat.lt_or_ge j i with hji | hji
    · rw [List.getElem?_append_left (by rw [h.len]; exact hji)] at hz
      exact h.wr N hN j x' z hj hz
    · rw [List.getElem?_append_right (by rw [h.len]; exact hji),h.len] at hz
      have : j = i := by
        have := (List.getElem?_eq_some_iff.1 hz).1
        simp at this; omega
      subst this
      rw [hx] at hj
      cases hj
      simp at hz
      subst hz
      exact hg.wr N hN
  lo := by have := h.lo; omega
  hi := by
    have := h.hi
    have e : ((i + 1 : Nat) : Int) * TT k = (i : Int) * TT k + TT k := by rw [Int.natCast_add,Int.add_mul]; simp
    rw [e]; omega
theorem gd_node {n : Nat} (hn : 6000 < n) {l : List R63} {m : Bool} {L : Int} {k : Nat} {d : List Int} {c c' : Int} {ts : List K40} {ys : List R27} (hk : ys.length = k + 1) (hk7 : k < 7) (h12 : l.length ≤ 12) (hd : d.length + (k + 1) = l.length) (hp : possB l d L = true) (h : LI n l m L k d c (rdI l d).length c' ts ys) (hc : 1 + (c' - c) ≤ 2000) :
    Gd n l m L (k + 1) d ⟨0,ys.map K27.of,[]⟩ ⟨0,ts,[]⟩ (1 + (c' - c)) where
  own := fuel fun N hN => by
    have := h.own N (by omega)
    show R40.mk 0 ((ys.map K27.of).map fun z => K40.of (ownF N z.out)) [] = _
    rw [List.map_map]
    rw [← this]
    rfl
  nod := fuel fun N hN => by
    obtain ⟨q1,q2⟩ := h.nod N (by omega)
    show (ys.map K27.of).foldl (fun s z => IntKind.wrap .i64 (s + nodF N z.out)) 1 = _
    rw [List.foldl_map]
    have := (sum_fold (g := nodF N) ys 1 (by omega) q2 (by rw [q1]; exact hc)).2
    rw [q1] at this
    exact this
  dep := fuel fun N hN => by
    show 0 ≤ IntKind.wrap .i64 (mxF (fun z => depF N z.out) (ys.map K27.of) + 1) ∧ IntKind.wrap .i64 (mxF (fun z => depF N z.out) (ys.map K27.of) + 1) ≤ _
    have := mxF_bd (g := fun z => depF N z.out) (B := (k : Int) + 1) (ys.map K27.of) 0 (by omega) (by omega) fun z hz => by
      obtain ⟨y,hy,rfl⟩ := List.mem_map.1 hz
      exact h.dep N (by omega) y hy
    have e : mxF (fun z => depF N z.out) (ys.map K27.of) = (ys.map K27.of).foldl (fun s z => if depF N z.out > s then depF N z.out else s) 0 := rfl
    rw [e]
    generalize (ys.map K27.of).foldl (fun s z => if depF N z.out > s then depF N z.out else s) 0 = q at this ⊢
    rw [wrap64 (by omega) (by omega)]
    omega
  frm := fuel fun N hN => by
    show (nodeB _ && _) = true
    rw [nodeB_iff.2 ⟨rfl,by show (ys.map K27.of).length ≤ 100; rw [List.length_map]; omega,by show (0 : Nat) ≤ 40; omega,.inr rfl,.inr rfl,rfl⟩,Bool.true_and,List.all_eq_true]
    intro z hz
    obtain ⟨y,hy,rfl⟩ := List.mem_map.1 hz
    exact h.frm N (by omega) y hy
  fit := fuel fun N hN => ⟨by show (ys.map K27.of).length < n; rw [List.length_map]; omega,by show (ys.map K27.of).length ≤ _; rw [List.length_map]; omega,fun z hz => by
    obtain ⟨y,hy,rfl⟩ := List.mem_map.1 hz
    exact h.fit N (by omega) y hy⟩
  wr := fuel fun N hN => by
    have hl : (rdI l d).length = ys.length := h.len.symm
    unfold m33F m33B
    dsimp only
    rw [if_neg (by rw [decide_eq_true_eq,List.length_map]; omega),m56_val (by omega) (by omega) (by omega),if_pos ⟨rfl,hp,by omega⟩,Option.bind_some,kids24]
    dsimp only
    rw [List.length_map,List.length_map,if_neg (by simp [hl]),jn]
    refine loop_run (fun i => (i : Int)) (rdI l d).length _ rfl (fun i hi nx => ?_) (fun nx => ?_) (by omega)
    · have hy : i < ys.length := by omega
      rw [m33_L1]
      dsimp only
      rw [List.length_map,if_pos (decide_eq_true (by omega)),map_at hi,Option.bind_some,getIdx_at rfl (by rw [List.length_map]; exact hy),Option.bind_some,List.getElem_map]
      have := h.wr N (by omega) i _ _ (List.getElem?_eq_getElem hi) (List.getElem?_eq_getElem hy)
      dsimp only [e24]
      rw [show m33F n N ⟨l,d ++ [(rdI l d)[i]],m,L⟩ (R27.mk (K27.of ys[i]).out.Sp (K27.of ys[i]).out.Kd (K27.of ys[i]).out.Lf) = _ from this,Option.bind_some,if_neg (by simp),letM_eq,wInc (by omega)]
    · rw [m33_L1]
      dsimp only
      rw [List.length_map,if_neg (by simp)]
theorem build_ok {n : Nat} (hn : 6000 < n) {l : List R63} {m : Bool} {L : Int} (hv : vld l = true) (h1 : 0 < l.length) (h7 : l.length ≤ 7) (hL : ∀ o,comp l o → L ≤ val l o m) (hb1 : (-1073741824 : Int) ≤ L) (hb2 : L ≤ 1073741824) :
    ∀ (k f : Nat) (d : List Int) (dp c : Int),d.length + k = l.length → ordB l.length d = true → k < f → 1 ≤ dp → dp + (k : Int) ≤ 20 → 0 ≤ c → c ≤ 2000 →
      ∃ t e c',m61F n f ⟨l,d,m,L⟩ dp c = some (t,e,c') ∧ ((e = 9 ∧ 2000 < c + TT k) ∨ (e = 0 ∧ c' ≤ 2000 ∧ c ≤ c' ∧ c' ≤ c + TT k ∧ ∃ y,Gd n l m L k d y t (c' - c))) := by
  intro k
  induction k with
  | zero =>
    rintro (_ | f) d dp c hk hd hf hdp1 hdp2 hc0 hc1
    · omega
    have hp : possB l d L = true := by
      unfold possB
      rw [hv,hd,decide_eq_true hb1,decide_eq_true hb2,decide_eq_true (by omega)]; rfl
    obtain ⟨v,hpv,e⟩ := m41_val (n := n) (m := m) (b := L) hv hd (by omega) hn
    have hcd : comp l d := ⟨hd,by omega⟩
    have hLv : L ≤ v := by
      rw [hpv.full (by omega) hcd]; exact hL d hcd
    unfold m61F m61B
    rw [letM_eq,wrap64 (by omega) (by omega)]
    by_cases hcc : 2000 < c + 1
    · rw [if_pos (by simp [hcc])]
      exact ⟨_,_,_,rfl,.inl ⟨rfl,hcc⟩⟩
    · rw [if_neg (by simp; omega)]
      dsimp only
      rw [e,Option.bind_some,if_pos hLv]
      dsimp only
      rw [if_pos (show decide ((2 : Int) = 2) = true from rfl),m52_val (by simp),Option.bind_some,show m62 n (R40.mk 0 [] []) = _ from m62_val (f := 0) (by omega) (R27.mk 0 [] []),Option.bind_some,leafB,if_neg (by simp)]
      exact ⟨_,_,_,rfl,.inr ⟨rfl,by omega,by omega,by show c + 1 ≤ c + 1; omega,_,by rw [show c + 1 - c = 1 from by omega]; exact gd_leaf (by omega) (by omega) hn hp hpv hLv 0⟩⟩
  | succ k ih =>
    rintro (_ | f) d dp c hk hd hf hdp1 hdp2 hc0 hc1
    · omega
    have hp : possB l d L = true := by
      unfold possB
      rw [hv,hd,decide_eq_true hb1,decide_eq_true hb2,decide_eq_true (by omega)]; rfl
    obtain ⟨v,hpv,e⟩ := m41_val (n := n) (m := m) (b := L) hv hd (by omega) hn
    have hT := TT_pos (k + 1)
    unfold m61F m61B
    rw [letM_eq,wrap64 (by omega) (by omega)]
    by_cases hcc : 2000 < c + 1
    · rw [if_pos (by simp [hcc])]
      exact ⟨_,_,_,rfl,.inl ⟨rfl,by omega⟩⟩
    · rw [if_neg (by simp; omega)]
      dsimp only
      rw [e,Option.bind_some]
      by_cases hLv : L ≤ v
      · rw [if_pos hLv]
        dsimp only
        rw [if_pos (show decide ((2 : Int) = 2) = true from rfl),m52_val (by simp),Option.bind_some,show m62 n (R40.mk 0 [] []) = _ from m62_val (f := 0) (by omega) (R27.mk 0 [] []),Option.bind_some,leafB,if_neg (by simp)]
        exact ⟨_,_,_,rfl,.inr ⟨rfl,by omega,by omega,by omega,_,by rw [show c + 1 - c = 1 from by omega]; exact gd_leaf (by omega) (by omega) hn hp hpv hLv _⟩⟩
      · have hrl := rdI_len hd (by omega)
        rw [if_neg hLv]
        dsimp only
        rw [if_neg (show ¬ decide ((1 : Int) = 2) = true from by decide),if_pos (show decide ((1 : Int) = 1) = true from rfl),m29_val (by omega) (by omega) (by omega),if_pos ⟨rfl,hp,by omega⟩,Option.bind_some,kids36]
        dsimp only
        rw [List.length_map,if_neg (by rw [decide_eq_false (show ¬ ((rdI l d).length : Int) = 0 by omega)]; simp),decide_eq_false (show ¬ (100 : Int) < ((rdI l d).length : Int) by omega),Bool.not_false,gdO_true,show m63 n 0 = some true from rfl,Option.bind_some,if_neg (by simp),jn]
        have hTT : TT (k + 1) = 1 + ((k : Int) + 1) * TT k := rfl
        have hTk := TT_pos k
        have key : ∀ (r i nn : Nat) (ci : Int) (ts : List K40) (ys : List R27),i + r = (rdI l d).length → r < nn → ci ≤ 2000 → LI n l m L k d (c + 1) i ci ts ys →
            ∃ t e c',loopM (m61_L1 n dp (m61F n f) ((rdI l d).map (e36 l d m L),true) (fun p_23 => some (R40.mk 0 p_23.2 [],0,p_23.1))) nn ((i : Int),ci,ts) = some (t,e,c') ∧
              ((e = 9 ∧ 2000 < c + TT (k + 1)) ∨ (e = 0 ∧ c' ≤ 2000 ∧ ∃ ts' ys',t = R40.mk 0 ts' [] ∧ LI n l m L k d (c + 1) (rdI l d).length c' ts' ys')) := by
          intro r
          induction r with
          | zero =>
            rintro i (_ | nn) ci ts ys hir hnn hci hI
            · omega
            have : i = (rdI l d).length := by omega
            subst this
            rw [loopM_succ,m61_L1]
            dsimp only
            rw [List.length_map,if_neg (by simp)]
            exact ⟨_,_,_,rfl,.inr ⟨rfl,hci,_,_,rfl,hI⟩⟩
          | succ r ihr =>
            rintro i (_ | nn) ci ts ys hir hnn hci hI
            · omega
            have hi : i < (rdI l d).length := by omega
            have hlo := hI.lo
            have hhi := hI.hi
            have hx := List.getElem_mem hi
            obtain ⟨t,e',c',q1,q2⟩ := ih f (d ++ [(rdI l d)[i]]) (dp + 1) ci (by simp; omega) (ord_snocR hd hx) (by omega) (by omega) (by omega) (by omega) hci
            have hmul : (i : Int) * TT k + TT k ≤ ((k : Int) + 1) * TT k := by
              have : ((i : Int) + 1) * TT k ≤ ((k : Int) + 1) * TT k := Int.mul_le_mul_of_nonneg_right (by omega) (by omega)
              rw [Int.add_mul,Int.one_mul] at this
              exact this
            rw [loopM_succ,m61_L1]
            dsimp only
            rw [List.length_map,if_pos (decide_eq_true (by omega)),map_at hi,Option.bind_some]
            dsimp only [e36]
            rw [wrap64 (by omega) (by omega),q1,Option.bind_some]
            dsimp only
            rcases q2 with ⟨rfl,q3⟩ | ⟨rfl,q3,q4,q5,y,hg⟩
            · rw [if_pos (show (!decide ((9 : Int) = 0)) = true from rfl)]
              exact ⟨_,_,_,rfl,.inl ⟨rfl,by omega⟩⟩
            · rw [if_neg (show ¬ (!decide ((0 : Int) = 0)) = true from by simp)]
              have htl : ts.length = i := by rw [← hI.own (k + 1) (by omega),List.length_map,hI.len]
              unfold apk
              rw [if_pos (by simp; omega),Option.bind_some,letM_eq,wInc (by omega)]
              exact ihr (i + 1) nn c' (ts ++ [K40.of t]) (ys ++ [y]) (by omega) (by omega) q3 (hI.step (List.getElem?_eq_getElem hi) hg q4 q5)
        obtain ⟨t,e',c',q1,q2⟩ := key (rdI l d).length 0 n (c + 1) [] [] (by omega) (by omega) (by omega) LI.start
        refine ⟨t,e',c',q1,?_⟩
        rcases q2 with q | ⟨rfl,q3,ts',ys',rfl,hI⟩
        · exact .inl q
        · have hlo := hI.lo
          have hhi := hI.hi
          have hlen := hI.len
          have hmul : ((rdI l d).length : Int) * TT k = ((k : Int) + 1) * TT k := by rw [show ((rdI l d).length : Int) = (k : Int) + 1 from by omega]
          have hg := gd_node hn (by omega) (by omega) (by omega) (by omega) hp hI (by omega)
          rw [show 1 + (c' - (c + 1)) = c' - c from by omega] at hg
          exact .inr ⟨rfl,q3,by omega,by omega,_,hg⟩
end Go.AB
