import Derived.Test.YtiginjokbkemcaaGreatLb
set_option linter.unusedVariables false
namespace Go.AB
open Go
def idxL {α : Type} (xs : List α) (p : α → Option Bool) (k : Unit → Option Int) (nx : Int → Option Int) (x : Int) : Option Int :=
  if (decide (x < (xs.length : Int))) = true then ((getIdx xs x).bind fun y => ((p y).bind fun b => (if b = true then (some x) else (letM ((IntKind.wrap .i64 (x + (1 : Int)))) fun t => (nx t))))) else (k ())
theorem any_iff {α : Type} {xs : List α} {q : α → Bool} : xs.any q = true ↔ ∃ i,i < xs.length ∧ (xs[i]?).any q = true := by
  rw [List.any_eq_true]
  constructor
  · rintro ⟨x,hx,hq⟩
    obtain ⟨i,hi,rfl⟩ := List.getElem_of_mem hx
    exact ⟨i,hi,by rw [List.getElem?_eq_getElem hi]; exact hq⟩
  · rintro ⟨i,hi,h⟩
    rw [List.getElem?_eq_getElem hi] at h
    exact ⟨_,List.getElem_mem hi,h⟩
theorem idx_any {α : Type} {xs : List α} {p : α → Option Bool} {q : α → Bool} {n : Nat} (h : ∀ y ∈ xs,p y = some (q y)) (hl : xs.length ≤ 1000000) (hn : xs.length < n) :
    (loopM (idxL xs p fun _ => some (-1)) n 0).bind (fun y => some (decide ((0 : Int) ≤ y))) = some (xs.any q) := by
  refine loop_findP (body := idxL xs p fun _ => some (-1)) (fun i => (i : Int)) xs.length (fun i => (xs[i]?).any q) (fun i => some (i : Int)) (some (-1)) (fun o => o.bind (fun y => some (decide ((0 : Int) ≤ y))) = some (xs.any q)) ?_ ?_ ?_ hn (fun i h1 h2 _ => ?_) fun h1 => ?_
  · intro i hi hp nx
    rw [List.getElem?_eq_getElem hi] at hp
    have hq : q xs[i] = false := hp
    rw [idxL,if_pos (by simp; omega),getIdx_at rfl hi,oB,h _ (List.getElem_mem hi),oB,hq,if_neg (by simp),letM_eq,wInc (by omega)]
  · intro i hi hp nx
    rw [List.getElem?_eq_getElem hi] at hp
    have hq : q xs[i] = true := hp
    rw [idxL,if_pos (by simp; omega),getIdx_at rfl hi,oB,h _ (List.getElem_mem hi),oB,hq,if_pos rfl]
  · intro nx
    rw [idxL,if_neg (by simp)]
  · rw [oB,decide_eq_true (by omega),any_iff.2 ⟨i,h1,h2⟩]
  · rw [oB]
    congr 1
    symm
    rw [show decide ((0 : Int) ≤ -1) = false from rfl,← Bool.not_eq_true]
    intro hh
    obtain ⟨i,hi,h2⟩ := any_iff.1 hh
    rw [h1 i hi] at h2
    cases h2
theorem any_not {α : Type} {xs : List α} {q : α → Bool} : (xs.any fun y => !q y) = !xs.all q := by
  rw [List.not_all_eq_any_not]
theorem m73_eq {n : Nat} {xs : List R50} {k : Unit → Option Int} : m73_L1 n xs k = idxL xs (fun y => m36 n (R50.mk y.X y.Y)) k := rfl
theorem m74_eq {n : Nat} {xs : List R71} {N : Int} {k : Unit → Option Int} : m74_L1 n xs N k = idxL xs (fun y => m37 n (R71.mk y.f0 y.f1) N) k := rfl
theorem get0 {α : Type} {x : α} {t : List α} : getIdx (x :: t) 0 = some x := rfl
theorem m36_val {n : Nat} {v : R50} : m36 n v = some (!okV v) := by
  unfold m36 okV
  rw [Bool.not_not]
theorem m38_val {n : Nat} {xs : List R50} (hl : xs.length ≤ 1000000) (hn : xs.length < n) : m38 n xs = some (!xs.all okV) := by
  rw [← any_not]
  unfold m38 m73
  rw [jn,m73_eq]
  have h : ∀ y ∈ xs,(fun y => m36 n (R50.mk y.X y.Y)) y = some ((fun y => !okV y) y) := fun y _ => m36_val
  exact idx_any h hl hn
def okPair (N : Int) (b : R71) : Bool := !(((((decide (b.f0 < (1 : Int))) || (decide (N ≤ b.f0))) || (decide (b.f1 < (1 : Int)))) || (decide (N ≤ b.f1))) || (decide (b.f0 = b.f1)))
theorem okPair_iff {N : Int} {b : R71} : okPair N b = true ↔ 1 ≤ b.f0 ∧ b.f0 < N ∧ 1 ≤ b.f1 ∧ b.f1 < N ∧ b.f0 ≠ b.f1 := by
  unfold okPair
  simp only [Bool.not_eq_true',Bool.or_eq_false_iff,decide_eq_false_iff_not]
  omega
theorem m39_val {n : Nat} {xs : List R71} {N : Int} (hl : xs.length ≤ 1000000) (hn : xs.length < n) : m39 n xs N = some (!xs.all (okPair N)) := by
  rw [← any_not]
  unfold m39 m74
  rw [jn,m74_eq]
  have h : ∀ y ∈ xs,(fun y => m37 n (R71.mk y.f0 y.f1) N) y = some ((fun y => !okPair N y) y) := fun y _ => by show m37 n (R71.mk y.f0 y.f1) N = some (!okPair N y); unfold okPair; rw [Bool.not_not]; rfl
  exact idx_any h hl hn
def grow (P : R24) : Nat → List Int → Bool
  | 0,_ => true
  | k + 1,path => match rd P path with
    | [] => false
    | x :: _ => grow P k (path ++ [x])
theorem rd_in {P : R24} {path : List Int} : InP P (rd P path) := fun x hx => by
  have := (List.mem_filter.1 hx).1
  exact mem_irange.1 this
theorem rd_new {P : R24} {path : List Int} {x : Int} (h : x ∈ rd P path) : x ∉ path := by
  have := (List.mem_filter.1 h).2
  unfold okF at this
  simp only [Bool.and_eq_true,Bool.not_eq_true'] at this
  intro hx
  rw [← List.contains_iff_mem] at hx
  rw [this.1] at hx; cases hx
theorem rd_len {P : R24} {path : List Int} : (rd P path).length ≤ P.Pq.length := filter_le _
theorem InP.snoc {P : R24} {l : List Int} {x : Int} (h : InP P l) (hx : 0 ≤ x ∧ x < P.Pq.length) : InP P (l ++ [x]) := fun y hy => by
  rcases List.mem_append.1 hy with hy | hy
  · exact h y hy
  · obtain rfl : y = x := by simpa using hy
    exact hx
theorem m8_L3_val {N : Nat} {P : R24} (hP : FewP P) (hN : 2000 < N) {K : Unit → Option Bool} : ∀ (k : Nat) (path : List Int) (n : Nat),path.length + k = P.Pq.length → k < n →
    loopM (m8_L3 N P K) n path = if grow P k path = true then K () else some false
  | 0,path,n + 1,h,_ => by
    rw [loopM_succ,m8_L3,if_neg (by simp; omega)]; rfl
  | k + 1,path,n + 1,h,hn => by
    have hpl : path.length ≤ 1000 := by have := hP.1; omega
    rw [loopM_succ,m8_L3,if_pos (by simp; omega),eta24,m25_val hP hpl hN,oB,grow]
    cases e : rd P path with
    | nil => rfl
    | cons x t =>
      rw [if_neg (by simp; omega),get0,oB]
      rw [apd_val (by simp; omega),oB]
      exact m8_L3_val hP hN k (path ++ [x]) n (by simp; omega) (by omega)
theorem m40_L1_val {N : Nat} {P : R24} (hP : FewP P) (hB : InB P) (hN : 2000 < N) {K : List Int → Option (List Int × Bool)} : ∀ (k : Nat) (path : List Int) (n : Nat),InP P path → path.length + k = P.Pq.length → k < n →
    (grow P k path = true ∧ ∃ o,loopM (m40_L1 N P K) n path = K o) ∨ (grow P k path = false ∧ loopM (m40_L1 N P K) n path = some ([],false))
  | 0,path,n + 1,hI,h,_ => by
    rw [loopM_succ,m40_L1,if_neg (by simp; omega)]
    exact .inl ⟨rfl,path,rfl⟩
  | k + 1,path,n + 1,hI,h,hn => by
    have hpl : path.length ≤ 1000 := by have := hP.1; omega
    rw [loopM_succ,m40_L1,if_pos (by simp; omega),eta24,m54_val hP hB hI hpl hN,oB,grow]
    cases e : rd P path with
    | nil => exact .inr ⟨rfl,rfl⟩
    | cons x t =>
      rw [if_neg (by simp; omega)]
      unfold m41
      rw [get0,oB,oB]
      rw [apd_val (by simp; omega),oB]
      exact m40_L1_val hP hB hN k (path ++ [x]) n (hI.snoc (rd_in (path := path) x (by rw [e]; simp))) (by simp; omega) (by omega)
def bigP (P : R24) : Bool := ((decide ((P.Pq.length : Int) < (1 : Int))) || (decide ((60 : Int) < (P.Pq.length : Int)))) || (decide ((200 : Int) < (P.Bq.length : Int)))
theorem bigP_iff {P : R24} : bigP P = false ↔ 1 ≤ P.Pq.length ∧ FewP P := by
  unfold bigP FewP
  simp only [Bool.or_eq_false_iff,decide_eq_false_iff_not]
  omega
def vP (P : R24) : Bool := !bigP P && P.Pq.all okV && P.Bq.all (okPair P.Pq.length) && grow P (P.Pq.length - 1) [0]
theorem m8_val {n : Nat} {P : R24} (hn : 2000 < n) : m8 n P = some (vP P) := by
  unfold m8 vP
  cases hb : bigP P with
  | true =>
    have hb' := hb
    unfold bigP at hb'
    rw [hb',if_pos rfl]; rfl
  | false =>
    have hb' := hb
    unfold bigP at hb'
    rw [hb',if_neg (by simp)]
    obtain ⟨h1,hP⟩ := bigP_iff.1 hb
    have hP1 := hP.1
    have hP2 := hP.2
    rw [jn]
    refine (loop_all (n := n) (fun i => (i : Int)) P.Pq.length (fun i => (P.Pq[i]?).all okV) (some false) (jn (fun p_19 : Unit => (jn (fun p_34 : Unit => (some true)) fun k_35 => (loopM (m8_L3 n P k_35) n ([(0 : Int)] : List Int)))) fun k_20 => (loopM (m8_L2 n P k_20) n (0 : Int))) ?_ ?_ ?_ (by omega)).trans ?_
    · intro i hi hp nx
      rw [List.getElem?_eq_getElem hi] at hp
      rw [m8_L1,if_pos (by simp; omega),getIdx_at rfl hi,oB]
      rw [if_neg (by have h : okV P.Pq[i] = true := hp
                     unfold okV at h
                     simpa only [Bool.not_eq_true',Bool.not_eq_true] using h),letM_eq,wInc (by omega)]
    · intro i hi hp nx
      rw [List.getElem?_eq_getElem hi] at hp
      rw [m8_L1,if_pos (by simp; omega),getIdx_at rfl hi,oB]
      rw [if_pos (by have h : okV P.Pq[i] = false := hp
                     unfold okV at h
                     simpa only [Bool.not_eq_false'] using h)]
    · intro nx
      rw [m8_L1,if_neg (by simp)]
    · have hall : (∀ i,i < P.Pq.length → (P.Pq[i]?).all okV = true) ↔ P.Pq.all okV = true := by
        rw [List.all_eq_true]
        constructor
        · intro h y hy
          obtain ⟨i,hi,rfl⟩ := List.getElem_of_mem hy
          have := h i hi
          rw [List.getElem?_eq_getElem hi] at this
          exact this
        · intro h i hi
          rw [List.getElem?_eq_getElem hi]
          exact h _ (List.getElem_mem hi)
      have hall2 : (∀ i,i < P.Bq.length → (P.Bq[i]?).all (okPair P.Pq.length) = true) ↔ P.Bq.all (okPair P.Pq.length) = true := by
        rw [List.all_eq_true]
        constructor
        · intro h y hy
          obtain ⟨i,hi,rfl⟩ := List.getElem_of_mem hy
          have := h i hi
          rw [List.getElem?_eq_getElem hi] at this
          exact this
        · intro h i hi
          rw [List.getElem?_eq_getElem hi]
          exact h _ (List.getElem_mem hi)
      by_cases hv : P.Pq.all okV = true
      · rw [if_pos (hall.2 hv),hv,jn]
        refine (loop_all (n := n) (fun i => (i : Int)) P.Bq.length (fun i => (P.Bq[i]?).all (okPair P.Pq.length)) (some false) (jn (fun p_34 : Unit => (some true)) fun k_35 => (loopM (m8_L3 n P k_35) n ([(0 : Int)] : List Int))) ?_ ?_ ?_ (by omega)).trans ?_
        · intro i hi hp nx
          rw [List.getElem?_eq_getElem hi] at hp
          rw [m8_L2,if_pos (by simp; omega),getIdx_at rfl hi,oB,letM_eq]
          rw [if_neg (by have h : okPair P.Pq.length P.Bq[i] = true := hp
                         unfold okPair at h
                         simpa only [Bool.not_eq_true',Bool.not_eq_true] using h),letM_eq,wInc (by omega)]
        · intro i hi hp nx
          rw [List.getElem?_eq_getElem hi] at hp
          rw [m8_L2,if_pos (by simp; omega),getIdx_at rfl hi,oB,letM_eq]
          rw [if_pos (by have h : okPair P.Pq.length P.Bq[i] = false := hp
                         unfold okPair at h
                         simpa only [Bool.not_eq_false'] using h)]
        · intro nx
          rw [m8_L2,if_neg (by simp)]
        · by_cases hw : P.Bq.all (okPair P.Pq.length) = true
          · rw [if_pos (hall2.2 hw),hw,jn,m8_L3_val hP hn (P.Pq.length - 1) [0] n (by simp; omega) (by omega)]
            cases grow P (P.Pq.length - 1) [0] <;> rfl
          · rw [if_neg (fun h => hw (hall2.1 h)),(Bool.not_eq_true _).mp hw]; rfl
      · rw [if_neg (fun h => hv (hall.1 h)),(Bool.not_eq_true _).mp hv]; rfl
theorem inB_of {P : R24} (h : P.Bq.all (okPair P.Pq.length) = true) : InB P := fun b hb => by
  have := okPair_iff.1 (List.all_eq_true.1 h b hb)
  omega
theorem m16_val {n : Nat} {P : R24} (hn : 2000 < n) : m16 n P = some (vP P) := by
  unfold m16
  show ((gdO (!bigP P) (m38 n P.Pq) default).bind fun y_1 => ((gdO (!(bigP P || y_1)) (m39 n P.Bq (P.Pq.length : Int)) default).bind fun y_2 => (letM ((bigP P || y_1) || y_2) fun t35_3 => (if t35_3 = true then (some false) else ((m40 n P).bind fun y_4 => (some y_4.2)))))) = _
  unfold vP
  cases hb : bigP P with
  | true => rfl
  | false =>
    obtain ⟨h1,hP⟩ := bigP_iff.1 hb
    have hP1 := hP.1
    have hP2 := hP.2
    rw [Bool.not_false,gdO_true,m38_val (by omega) (by omega),oB,Bool.false_or,Bool.not_not]
    cases hv : P.Pq.all okV with
    | false => rfl
    | true =>
      rw [gdO_true,m39_val (by omega) (by omega),oB,letM_eq]
      cases hw : P.Bq.all (okPair P.Pq.length) with
      | false => rfl
      | true =>
        rw [if_neg (by simp)]
        unfold m40
        rw [jn]
        have h0 : InP P [0] := fun x hx => by
          obtain rfl : x = 0 := by simpa using hx
          omega
        rcases m40_L1_val hP (inB_of hw) hn (K := fun p => some (p,true)) (P.Pq.length - 1) [0] n h0 (by simp; omega) (by omega) with ⟨e1,o,e2⟩ | ⟨e1,e2⟩
        · rw [e2,e1]; rfl
        · rw [e2,e1]; rfl
structure Good (P : R24) : Prop where
  few : FewP P
  one : 1 ≤ P.Pq.length
  vec : VecP P
  inb : InB P
  pair : ∀ b ∈ P.Bq,1 ≤ b.f0 ∧ 1 ≤ b.f1 ∧ b.f0 ≠ b.f1
  gr : grow P (P.Pq.length - 1) [0] = true
theorem good_of {P : R24} (h : vP P = true) : Good P := by
  unfold vP at h
  simp only [Bool.and_eq_true,Bool.not_eq_true'] at h
  obtain ⟨⟨⟨h1,h2⟩,h3⟩,h4⟩ := h
  obtain ⟨q1,q2⟩ := bigP_iff.1 h1
  exact ⟨q2,q1,List.all_eq_true.1 h2,inB_of h3,fun b hb => by
    have := okPair_iff.1 (List.all_eq_true.1 h3 b hb)
    omega,h4⟩
theorem grow_more {P : R24} {path : List Int} (hp : path.length < P.Pq.length) : ∀ (k : Nat) (q : List Int),grow P k q = true → (∀ x ∈ q,x ∈ path) → q.Nodup → q.length + k = P.Pq.length → rd P path ≠ []
  | 0,q,_,hq,hn,hl => by
    have := nodup_le hn hq
    omega
  | k + 1,q,hg,hq,hn,hl => by
    rw [grow] at hg
    cases e : rd P q with
    | nil => rw [e] at hg; cases hg
    | cons x t =>
      rw [e] at hg
      have hx : x ∈ rd P q := by rw [e]; simp
      have hxq := rd_new hx
      by_cases hxp : x ∈ path
      · refine grow_more hp k (q ++ [x]) hg (fun y hy => ?_) ?_ (by simp; omega)
        · rcases List.mem_append.1 hy with hy | hy
          · exact hq y hy
          · obtain rfl : y = x := by simpa using hy
            exact hxp
        · refine List.nodup_append.2 ⟨hn,by simp,fun a ha b hb => ?_⟩
          obtain rfl : b = x := by simpa using hb
          exact fun e => hxq (e ▸ ha)
      · have h2 := List.mem_filter.1 hx
        have : x ∈ rd P path := by
          refine List.mem_filter.2 ⟨h2.1,?_⟩
          have h3 := h2.2
          unfold okF at h3 ⊢
          rw [Bool.and_eq_true] at h3 ⊢
          refine ⟨?_,List.all_eq_true.2 fun b hb => ?_⟩
          · rw [Bool.not_eq_true',← Bool.not_eq_true,List.contains_iff_mem]
            exact hxp
          · have h4 := List.all_eq_true.1 h3.2 b hb
            unfold okB at h4 ⊢
            rw [Bool.or_eq_true] at h4 ⊢
            rcases h4 with h4 | h4
            · exact .inl h4
            · rw [List.contains_iff_mem] at h4 ⊢
              exact .inr (hq _ h4)
        intro hnil
        rw [hnil] at this
        cases this
theorem Good.next {P : R24} (h : Good P) {path : List Int} (h0 : (0 : Int) ∈ path) (hp : path.length < P.Pq.length) : rd P path ≠ [] :=
  grow_more hp _ [0] h.gr (fun x hx => by
    obtain rfl : x = 0 := by simpa using hx
    exact h0) (by simp) (by have := h.one; simp; omega)
end Go.AB
