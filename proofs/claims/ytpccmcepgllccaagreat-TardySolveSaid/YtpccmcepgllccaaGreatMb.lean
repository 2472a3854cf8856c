import Derived.Test.YtpccmcepgllccaaGreatMa
set_option linter.unusedVariables false
namespace Go.AB
open Go
def rdI (l : List R63) (d : List Int) : List Int := ((List.range l.length).map fun i : Nat => (i : Int)).filter fun j => !decide (j ∈ d)
theorem fold_rd {α : Type} (d : List Int) (g : Int → α) : ∀ k,foldN (fun (i : Nat) (s : List α) => if (i : Int) ∈ d then s else s ++ [g (i : Int)]) k [] = (((List.range k).map fun i : Nat => (i : Int)).filter fun j => !decide (j ∈ d)).map g
  | 0 => rfl
  | k + 1 => by
    rw [foldN,fold_rd d g k,List.range_succ,List.map_append,List.filter_append,List.map_append]
    by_cases h : (k : Int) ∈ d
    · simp [h]
    · simp [h]
def rstJ (l : List R63) (t : Int) (x : Int) : R63 := R63.mk (max (J l x).Rl t) (J l x).Ln (J l x).Due
theorem rst_eq {l : List R63} {d : List Int} : rst l d = (rdI l d).map (rstJ l (lastF l d)) := by
  unfold rst rdI
  rw [← fold_rd]
  have : rstS l d (lastF l d) = fun (i : Nat) (s : List R63) => if (i : Int) ∈ d then s else s ++ [rstJ l (lastF l d) (i : Int)] := by
    funext i s
    unfold rstS rstJ
    rw [J_nat]
  rw [this]
theorem kids_eq {l : List R63} {d : List Int} {m : Bool} {b : Int} : kids l d m b = (rdI l d).map fun x => R24.mk l (d ++ [x]) m b := by
  unfold kids rdI
  rw [← fold_rd]
  rfl
theorem rd_perm {l : List R63} {d q : List Int} (h : comp l (d ++ q)) : (rdI l d).Perm q := by
  have h1 := (comp_perm h).filter (fun j => !decide (j ∈ d))
  have hn := List.nodup_append.1 (ord_iff.1 h.1).1
  rw [List.filter_append,show d.filter (fun j => !decide (j ∈ d)) = [] from List.filter_eq_nil_iff.2 (by intro a ha; simp [ha]),List.nil_append,show q.filter (fun j => !decide (j ∈ d)) = q from List.filter_eq_self.2 (by
    intro a ha
    simp only [Bool.not_eq_true',decide_eq_false_iff_not]
    exact fun hd => hn.2.2 a hd a ha rfl)] at h1
  exact h1
theorem fin_app (l : List R63) : ∀ (d q : List Int) (t : Int),fin l t (d ++ q) = fin l t d ++ fin l (if d.length = 0 then t else (fin l t d).getD (d.length - 1) 0) q
  | [],q,t => rfl
  | x :: d,q,t => by
    rw [List.cons_append,fin,fin_app l d q,fin]
    cases d with
    | nil => rfl
    | cons y d =>
      rw [List.cons_append]
      simp only [List.length_cons,Nat.add_sub_cancel,if_neg (Nat.succ_ne_zero _)]
      rfl
def gI (l : List R63) (d : List Int) (x : Int) : Int := (((rdI l d).idxOf x : Nat) : Int)
theorem J_rst {l : List R63} {d : List Int} {x : Int} (hx : x ∈ rdI l d) : J (rst l d) (gI l d x) = rstJ l (lastF l d) x := by
  unfold J gI
  rw [rst_eq,Int.toNat_natCast,List.getD_eq_getElem?_getD,List.getElem?_map,List.getElem?_eq_getElem (List.idxOf_lt_length_of_mem hx),List.getElem_idxOf]
  rfl
theorem fin_rst {l : List R63} {d : List Int} (hp : ∀ x,x ∈ rdI l d → 0 ≤ (J l x).Ln) : ∀ (q : List Int) (s : Int),lastF l d ≤ s → (∀ x,x ∈ q → x ∈ rdI l d) → fin (rst l d) s (q.map (gI l d)) = fin l s q
  | [],s,_,_ => rfl
  | x :: q,s,hs,hq => by
    have hx := hq x (by simp)
    have h0 := hp x hx
    rw [List.map_cons,fin,J_rst hx,fin]
    have e : max s (rstJ l (lastF l d) x).Rl + (rstJ l (lastF l d) x).Ln = max s (J l x).Rl + (J l x).Ln := by
      unfold rstJ
      dsimp only
      omega
    rw [e,fin_rst hp q _ (by omega) fun y hy => hq y (by simp [hy])]
theorem fin_rst0 {l : List R63} {d q : List Int} (hp : ∀ x,x ∈ rdI l d → 0 ≤ (J l x).Ln) (h0 : 0 ≤ lastF l d) (hq : ∀ x,x ∈ q → x ∈ rdI l d) : fin (rst l d) 0 (q.map (gI l d)) = fin l (lastF l d) q := by
  cases q with
  | nil => rfl
  | cons x q =>
    have hx := hq x (by simp)
    have h1 := hp x hx
    rw [List.map_cons,fin,J_rst hx,fin]
    have e : max 0 (rstJ l (lastF l d) x).Rl + (rstJ l (lastF l d) x).Ln = max (lastF l d) (J l x).Rl + (J l x).Ln := by
      unfold rstJ
      dsimp only
      omega
    rw [e,fin_rst hp q _ (by omega) fun y hy => hq y (by simp [hy])]
theorem idx_inj {l : List Int} {x y : Int} (hx : x ∈ l) (hy : y ∈ l) (h : l.idxOf x = l.idxOf y) : x = y := by
  have h1 := List.getElem_idxOf (List.idxOf_lt_length_of_mem hx)
  have h2 := List.getElem_idxOf (List.idxOf_lt_length_of_mem hy)
  rw [← h1,← h2]
  congr 1
theorem comp_rst {l : List R63} {d q : List Int} (h : comp l (d ++ q)) : comp (rst l d) (q.map (gI l d)) ∧ ∀ x,x ∈ q → x ∈ rdI l d := by
  have hp := rd_perm h
  have hq : ∀ x,x ∈ q → x ∈ rdI l d := fun x hx => hp.mem_iff.2 hx
  have hl : (rst l d).length = (rdI l d).length := by rw [rst_eq,List.length_map]
  have hn := (List.nodup_append.1 (ord_iff.1 h.1).1).2.1
  refine ⟨⟨ord_iff.2 ⟨?_,?_⟩,by rw [List.length_map,hl,hp.length_eq]⟩,hq⟩
  · rw [List.Nodup,List.pairwise_map]
    refine List.Pairwise.imp_of_mem (fun {a b} ha hb hab he => hab ?_) hn
    exact idx_inj (hq a ha) (hq b hb) (by unfold gI at he; omega)
  · intro y hy
    obtain ⟨x,hx,rfl⟩ := List.mem_map.1 hy
    have := List.idxOf_lt_length_of_mem (hq x hx)
    unfold gI
    omega
theorem lat_pre {l : List R63} {d q : List Int} {i : Nat} (hi : i < d.length) : lat l (d ++ q) i = lat l d i := by
  unfold lat
  rw [fin_app]
  have := fin_len l d 0
  rw [List.getD_eq_getElem?_getD,List.getElem?_append_left (by omega),← List.getD_eq_getElem?_getD,List.getD_eq_getElem?_getD (l := d ++ q),List.getElem?_append_left hi,← List.getD_eq_getElem?_getD]
theorem lat_suf {l : List R63} {d q : List Int} (hp : ∀ y,y ∈ l → 0 ≤ y.Ln) (h0 : 0 ≤ lastF l d) (h : comp l (d ++ q)) {i : Nat} (hi : i < q.length) : lat (rst l d) (q.map (gI l d)) i = lat l (d ++ q) (d.length + i) := by
  have hq := (comp_rst h).2
  have hin := (ord_iff.1 h.1).2
  have hr : ∀ x,x ∈ rdI l d → 0 ≤ (J l x).Ln := fun x hx => by
    have h1 := hin x (List.mem_append_right _ ((rd_perm h).mem_iff.1 hx))
    exact hp _ (J_mem h1.1 h1.2)
  unfold lat
  rw [fin_rst0 hr h0 hq,fin_app]
  have := fin_len l d 0
  rw [List.getD_eq_getElem?_getD (l := fin l 0 d ++ _),List.getElem?_append_right (by omega),this,Nat.add_sub_cancel_left]
  rw [List.getD_eq_getElem?_getD (l := d ++ q),List.getElem?_append_right (by omega),Nat.add_sub_cancel_left]
  have e : (q.map (gI l d)).getD i 0 = gI l d q[i] := by
    rw [List.getD_eq_getElem?_getD,List.getElem?_map,List.getElem?_eq_getElem hi]; rfl
  rw [e,J_rst (hq _ (List.getElem_mem hi)),List.getElem?_eq_getElem hi]
  rfl
theorem val_le {l l' : List R63} {o o' : List Int} (h0 : o'.length ≠ 0) (h : ∀ i,i < o'.length → ∃ j,j < o.length ∧ lat l' o' i = lat l o j) : val l' o' true ≤ val l o true := by
  rw [val_most (l := l')]
  obtain ⟨k,hk⟩ : ∃ k,o'.length = k + 1 := ⟨o'.length - 1,by omega⟩
  rw [hk]
  dsimp only
  obtain ⟨i,hi,e⟩ := mx_ex (g := lat l' o') k
  obtain ⟨j,hj,e2⟩ := h i (by omega)
  rw [e,e2]
  exact lat_le_val hj
theorem sumN_split {g : Nat → Int} (a : Nat) : ∀ b,sumN g (a + b) = sumN g a + sumN (fun i => g (a + i)) b
  | 0 => by simp [sumN]
  | b + 1 => by rw [← Nat.add_assoc,sumN,sumN_split a b,sumN]; omega
theorem val_lat (l : List R63) (o : List Int) : val l o false = sumN (fun m => max 0 (lat l o m)) o.length := val_late l o
theorem Prv.le {l : List R63} {d o : List Int} {m : Bool} {v : Int} (hv : vld l = true) (h : Prv l d m v) (ho : comp l o) (hp : o.take d.length = d) : v ≤ val l o m := by
  obtain ⟨q,rfl⟩ : ∃ q,o = d ++ q := ⟨o.drop d.length,by have := List.take_append_drop d.length o; rw [hp] at this; exact this.symm⟩
  have hin := (ord_iff.1 ho.1).2
  have hind : inR l.length d := fun x hx => hin x (List.mem_append_left _ hx)
  have hl40 := (bd_vld hv).2
  have hlen := ho.2
  rw [List.length_append] at hlen
  obtain ⟨r1,r2,r3,r4⟩ := rst_ok hv hind (by omega)
  have ht := (lastF_bd hv hind (by omega)).1
  have hpos : ∀ y,y ∈ l → 0 ≤ y.Ln := fun y hy => by have := vld_pos' hv y hy; omega
  obtain ⟨hc,hq⟩ := comp_rst ho
  have hsuf : ∀ i,i < q.length → lat (rst l d) (q.map (gI l d)) i = lat l (d ++ q) (d.length + i) := fun i hi => lat_suf hpos ht ho hi
  have hql : (q.map (gI l d)).length = q.length := List.length_map _
  have hrl : (rst l d).length = q.length := by rw [← hc.2,hql]
  unfold Prv at h
  cases m with
  | true =>
    rw [if_pos rfl] at h
    have hd : d ≠ [] → val l d true ≤ val l (d ++ q) true := fun hd => val_le (fun e => hd (List.eq_nil_of_length_eq_zero e)) fun i hi => ⟨i,by rw [List.length_append]; omega,(lat_pre hi).symm⟩
    have hr : rst l d ≠ [] → par (rst l d) 1 ≤ val l (d ++ q) true := fun hr => by
      refine Int.le_trans (par_late r1 r2 hc) (val_le (fun e => hr (List.eq_nil_of_length_eq_zero (by omega))) fun i hi => ⟨d.length + i,by rw [List.length_append]; omega,hsuf i (by omega)⟩)
    by_cases h0 : rst l d = []
    · rw [if_pos h0] at h
      have : q = [] := List.eq_nil_of_length_eq_zero (by rw [← hrl,h0]; rfl)
      rw [h,this,List.append_nil]
      exact Int.le_refl _
    · rw [if_neg h0] at h
      by_cases h1 : d = []
      · rw [if_pos h1] at h
        rw [h]; exact hr h0
      · rw [if_neg h1] at h
        rw [h]
        exact Int.max_le.2 ⟨hd h1,hr h0⟩
  | false =>
    rw [if_neg (by simp)] at h
    obtain ⟨out,hrn,hol,rfl⟩ := h
    have q2 : sumB (rst l d) out ≤ val (rst l d) (q.map (gI l d)) false := sum_least r2 (fun y hy => (r1 y hy).1) hc hrn hol (isrN_facts (dues (rst l d))).1 (isrN_facts (dues (rst l d))).2
    refine Int.le_trans (Int.add_le_add_left q2 _) (Int.le_of_eq ?_)
    rw [val_lat,val_lat,val_lat,List.length_append,sumN_split,hql]
    rw [sumN_congr (g := fun m => max 0 (lat l d m)) (g' := fun m => max 0 (lat l (d ++ q) m)) fun i hi => by rw [lat_pre hi]]
    rw [sumN_congr (g := fun m => max 0 (lat (rst l d) (q.map (gI l d)) m)) (g' := fun i => max 0 (lat l (d ++ q) (d.length + i))) fun i hi => by rw [hsuf i hi]]
theorem m55_true {n : Nat} {l : List R63} {d a : List Int} {m : Bool} {b : Int} (hl : l.length ≤ 12) (hd : d.length ≤ 1000) (hn : 6000 < n) (h : m55 n ⟨l,d,m,b⟩ a = some true) {o : List Int} (ho : comp l o) (hp : o.take d.length = d) : b ≤ val l o m := by
  unfold m55 at h
  dsimp only at h
  rw [m31_val (by omega) hd (by omega),Option.bind_some] at h
  cases hpb : possB l d b with
  | false =>
    rw [hpb] at h
    simp [gdO] at h
  | true =>
    obtain ⟨hv,hlp,hor⟩ := poss_iff hpb
    obtain ⟨w,e2,p2⟩ := m70_val (n := n) (b := b) (m := m) hv hor hl hn
    rw [hpb] at h
    cases ha : decide ((a.length : Int) = (0 : Int)) with
    | false =>
      rw [ha] at h
      simp [gdO] at h
    | true =>
      rw [ha,show (true && true) = true from rfl,gdO_true,e2,Option.bind_some,Bool.true_and] at h
      have := of_decide_eq_true (Option.some.inj h)
      have := p2.le hv ho hp
      omega
end Go.AB
