import Derived.Test.YtiginjokbkemcaaGreatLe
set_option linter.unusedVariables false
namespace Go.AB
open Go
def Path (P : R24) (l : List Int) : Prop := l.head? = some 0 ∧ ∀ i (h : i + 1 < l.length),l[i + 1] ∈ rd P (l.take (i + 1))
def pathB (P : R24) (l : List Int) : Bool := decide (l.head? = some 0) && (List.range (l.length - 1)).all fun i => (rd P (l.take (i + 1))).contains (l.getD (i + 1) 0)
theorem pathB_iff {P : R24} {l : List Int} : pathB P l = true ↔ Path P l := by
  unfold pathB Path
  rw [Bool.and_eq_true,decide_eq_true_eq,List.all_eq_true]
  refine and_congr_right fun _ => ⟨fun h i hi => ?_,fun h i hi => ?_⟩
  · have := h i (List.mem_range.2 (by omega))
    rw [List.contains_iff_mem,List.getD_eq_getElem?_getD,List.getElem?_eq_getElem hi] at this
    exact this
  · have hi' := List.mem_range.1 hi
    rw [List.contains_iff_mem,List.getD_eq_getElem?_getD,List.getElem?_eq_getElem (by omega)]
    exact h i (by omega)
theorem mem_rd {P : R24} {q : List Int} {x : Int} : x ∈ rd P q ↔ (0 ≤ x ∧ x < P.Pq.length) ∧ x ∉ q ∧ ∀ b ∈ P.Bq,b.f1 = x → b.f0 ∈ q := by
  unfold rd
  rw [List.mem_filter,mem_irange]
  refine and_congr_right fun _ => ?_
  unfold okF
  rw [Bool.and_eq_true,Bool.not_eq_true',← Bool.not_eq_true,List.contains_iff_mem,List.all_eq_true]
  refine and_congr_right fun _ => ?_
  constructor
  · intro h b hb e
    have := h b hb
    unfold okB at this
    rw [decide_eq_true e] at this
    simpa using this
  · intro h b hb
    unfold okB
    by_cases e : b.f1 = x
    · rw [decide_eq_true e]
      simpa using h b hb e
    · rw [decide_eq_false e]; rfl
theorem mem_take_idx {l : List Int} {y : Int} {i : Nat} (hi : i ≤ l.length) : y ∈ l.take i ↔ l.idxOf y < i := by
  constructor
  · intro h
    obtain ⟨k,hk,e⟩ := List.getElem_of_mem h
    have hk' : k < i := by simp at hk; omega
    have : l.idxOf y ≤ k := by
      rw [List.getElem_take] at e
      rcases Nat.lt_or_ge k (l.idxOf y) with h1 | h1
      · exact absurd e (by
          have := List.not_of_lt_findIdx (xs := l) (p := (· == y)) (i := k) (by simpa [List.idxOf] using h1)
          simpa using this)
      · exact h1
    omega
  · intro h
    have hl : l.idxOf y < l.length := by omega
    have e : l[l.idxOf y] = y := List.getElem_idxOf hl
    rw [← e]
    exact List.mem_take_iff_getElem.2 ⟨l.idxOf y,by omega,rfl⟩
theorem idx_at {l : List Int} {i : Nat} (hi : i < l.length) (hn : l[i] ∉ l.take i) : l.idxOf l[i] = i := by
  have h1 : ¬ l.idxOf l[i] < i := fun h => hn ((mem_take_idx (by omega)).2 h)
  have h2 : l.idxOf l[i] < i + 1 := (mem_take_idx (by omega)).1 (by rw [List.take_succ_eq_append_getElem hi]; exact List.mem_append_right _ (List.mem_singleton.2 rfl))
  omega
def atR (N : Nat) (l : List Int) (i : Nat) : List Int := frow N fun j => if (l.take i).contains (j : Int) = true then (l.idxOf (j : Int) : Int) else (l.length : Int)
def okAt (P : R24) (l : List Int) (i : Nat) : Bool := (decide (0 ≤ l.getD i 0) && decide (l.getD i 0 < P.Pq.length)) && !(l.take i).contains (l.getD i 0)
def atF (l : List Int) (y : Int) : Int := if y ∈ l then (l.idxOf y : Int) else l.length
def wrongB (l : List Int) (b : R71) : Bool := decide (atF l b.f1 < l.length) && decide (atF l b.f1 ≤ atF l b.f0)
theorem atR_all {P : R24} {l : List Int} {y : Int} (h : inN P y) : getIdx (atR P.Pq.length l l.length) y = some (atF l y) := by
  obtain ⟨h0,h1⟩ := h
  unfold atR atF
  rw [frow_at h0 h1,List.take_length]
  have e : ((y.toNat : Nat) : Int) = y := by omega
  rw [e]
  congr 1
  by_cases hc : y ∈ l
  · rw [if_pos hc,if_pos (List.contains_iff_mem.2 hc)]
  · rw [if_neg hc,if_neg (fun h => hc (List.contains_iff_mem.1 h))]
theorem m93_val {n : Nat} {P : R24} {l : List Int} {b : R71} (h0 : inN P b.f0) (h1 : inN P b.f1) : m93 n b (atR P.Pq.length l l.length) l = some (wrongB l b) := by
  unfold m93 wrongB
  rw [atR_all h1,oB,atR_all h0]
  by_cases hc : atF l b.f1 < (l.length : Int)
  · rw [decide_eq_true hc,gdO_true,gdO_true,oB,oB]
  · rw [decide_eq_false hc,gdO_false,gdO_false,oB,oB,Bool.false_and,Bool.false_and]
theorem m74x1_eq {n : Nat} {xs : List R71} {a l : List Int} {k : Unit → Option Int} : m74x1_L1 n xs a l k = idxL xs (fun y => m93 n (R71.mk y.f0 y.f1) a l) k := rfl
theorem m39x1_val {n : Nat} {P : R24} {l : List Int} (hP : FewP P) (hB : InB P) (hn : 2000 < n) : m39x1 n P.Bq (atR P.Pq.length l l.length) l = some (P.Bq.any (wrongB l)) := by
  have hP2 := hP.2
  unfold m39x1 m74x1
  rw [jn,m74x1_eq]
  have h : ∀ y ∈ P.Bq,(fun y => m93 n (R71.mk y.f0 y.f1) (atR P.Pq.length l l.length) l) y = some (wrongB l y) := fun y hy => m93_val (b := y) (hB y hy).1 (hB y hy).2
  exact idx_any h (by omega) (by omega)
def pathO (P : R24) (l : List Int) : Bool := ((List.range l.length).all (okAt P l)) && (decide (l.head? = some 0) && !P.Bq.any (wrongB l))
theorem m75_val {n : Nat} {P : R24} {l : List Int} (hP : FewP P) (hB : InB P) (hl : l.length ≤ 1000) (hn : 2000 < n) : m75 n P l = some (pathO P l) := by
  have hP1 := hP.1
  unfold m75
  rw [m81o_val (by omega) hn,oB,jn]
  have hstart : List.replicate P.Pq.length (l.length : Int) = atR P.Pq.length l 0 := by
    unfold atR
    rw [frow_rep]
    simp
  rw [hstart]
  refine loop_findP (body := m75_L1 n l _) (fun i => ((i : Int),atR P.Pq.length l i)) l.length (fun i => !okAt P l i) (fun _ => some false) (some (decide (l.head? = some 0) && !P.Bq.any (wrongB l))) (fun o => o = some (pathO P l)) ?_ ?_ ?_ (by omega) (fun i h1 h2 _ => ?_) fun h1 => ?_
  · intro i hi hp nx
    have hok : okAt P l i = true := by simpa using hp
    have hli : l.getD i 0 = l[i] := by rw [List.getD_eq_getElem?_getD,List.getElem?_eq_getElem hi]; rfl
    unfold okAt at hok
    rw [hli] at hok
    simp only [Bool.and_eq_true,decide_eq_true_eq,Bool.not_eq_true'] at hok
    obtain ⟨⟨h0,h1⟩,h2⟩ := hok
    have hne : l[i] ∉ l.take i := fun h => by rw [List.contains_iff_mem.2 h] at h2; cases h2
    have hlen : (atR P.Pq.length l i).length = P.Pq.length := frow_len
    have hat : getIdx (atR P.Pq.length l i) l[i] = some (l.length : Int) := by
      unfold atR
      rw [frow_at h0 h1]
      have e : ((l[i].toNat : Nat) : Int) = l[i] := by omega
      rw [e,h2,if_neg (by simp)]
    rw [m75_L1,if_pos (by simp; omega),getIdx_at rfl hi,oB]
    dsimp only
    rw [hlen,decide_eq_false (by omega),decide_eq_false (by omega),Bool.or_false,Bool.not_false,gdO_true,hat,oB,decide_eq_false (by omega),Bool.or_false,if_neg (by simp),oB]
    have hset : setIdx (atR P.Pq.length l i) l[i] (i : Int) = some (atR P.Pq.length l (i + 1)) := by
      unfold atR
      rw [frow_set h0 h1]
      congr 1
      refine frow_congr fun j hj => ?_
      rw [List.take_succ_eq_append_getElem hi,List.contains_append]
      by_cases e : j = l[i].toNat
      · have e' : l[i] = (j : Int) := by omega
        rw [if_pos e,← e',idx_at hi hne]
        simp
      · have e' : ¬ (j : Int) = l[i] := by omega
        rw [if_neg e]
        simp [e']
    rw [hset,oB,letM_eq,wInc (by omega)]
  · intro i hi hp nx
    have hok : okAt P l i = false := by simpa using hp
    have hli : l.getD i 0 = l[i] := by rw [List.getD_eq_getElem?_getD,List.getElem?_eq_getElem hi]; rfl
    have hlen : (atR P.Pq.length l i).length = P.Pq.length := frow_len
    rw [m75_L1,if_pos (by simp; omega),getIdx_at rfl hi,oB]
    dsimp only
    rw [hlen]
    by_cases hr : 0 ≤ l[i] ∧ l[i] < (P.Pq.length : Int)
    · obtain ⟨h0,h1⟩ := hr
      unfold okAt at hok
      rw [hli,decide_eq_true h0,decide_eq_true h1,Bool.true_and,Bool.true_and,Bool.not_eq_false'] at hok
      rw [decide_eq_false (by omega),decide_eq_false (by omega),Bool.or_false,Bool.not_false,gdO_true]
      unfold atR
      rw [frow_at h0 h1,oB]
      have e : ((l[i].toNat : Nat) : Int) = l[i] := by omega
      have hid := (mem_take_idx (l := l) (y := l[i]) (i := i) (by omega)).1 (List.contains_iff_mem.1 hok)
      rw [e,hok,if_pos rfl,decide_eq_true (by omega),Bool.false_or,if_pos rfl]
    · have hb : (decide (l[i] < (0 : Int)) || decide ((P.Pq.length : Int) ≤ l[i])) = true := by
        rcases Int.lt_or_le l[i] 0 with h | h
        · rw [decide_eq_true h]; rfl
        · rw [decide_eq_true (p := (P.Pq.length : Int) ≤ l[i]) (by omega),Bool.or_true]
      rw [hb,Bool.not_true,gdO_false,oB,Bool.true_or,if_pos rfl]
  · intro nx
    rw [m75_L1,if_neg (by simp)]
    have hg : gdO (decide ((0 : Int) < (l.length : Int))) (getIdx l 0) default = some (l.getD 0 0) := by
      cases l with
      | nil => rfl
      | cons a t => rw [decide_eq_true (by simp),gdO_true]; rfl
    have hh : ((decide ((0 : Int) < (l.length : Int))) && (decide (l.getD 0 0 = (0 : Int)))) = decide (l.head? = some 0) := by
      cases l with
      | nil => rfl
      | cons a t => simp
    rw [hg,oB,hh,m39x1_val hP hB hn]
    cases decide (l.head? = some 0) with
    | false => rfl
    | true => rfl
  · congr 1
    unfold pathO
    have : ((List.range l.length).all (okAt P l)) = false := by
      rw [← Bool.not_eq_true,List.all_eq_true]
      intro h
      rw [h i (List.mem_range.2 h1)] at h2
      cases h2
    rw [this]; rfl
  · unfold pathO
    have : ((List.range l.length).all (okAt P l)) = true := List.all_eq_true.2 fun i hi => by
      have := h1 i (List.mem_range.1 hi)
      simpa using this
    rw [this]; rfl
theorem path_eq {P : R24} (hg : Good P) (l : List Int) : pathO P l = pathB P l := by
  rw [Bool.eq_iff_iff,pathB_iff]
  have hN := hg.one
  unfold pathO Path
  rw [Bool.and_eq_true,Bool.and_eq_true,decide_eq_true_eq,List.all_eq_true,Bool.not_eq_true',← Bool.not_eq_true,List.any_eq_true]
  have hokI : ∀ i (hi : i < l.length),okAt P l i = true ↔ (0 ≤ l[i] ∧ l[i] < P.Pq.length) ∧ l[i] ∉ l.take i := fun i hi => by
    unfold okAt
    have hli : l.getD i 0 = l[i] := by rw [List.getD_eq_getElem?_getD,List.getElem?_eq_getElem hi]; rfl
    rw [hli]
    simp only [Bool.and_eq_true,decide_eq_true_eq,Bool.not_eq_true']
    refine and_congr_right fun _ => ?_
    rw [← Bool.not_eq_true,List.contains_iff_mem]
  constructor
  · rintro ⟨h1,h2,h3⟩
    refine ⟨h2,fun i hi => mem_rd.2 ?_⟩
    have hk := (hokI (i + 1) hi).1 (h1 (i + 1) (List.mem_range.2 hi))
    refine ⟨hk.1,hk.2,fun b hb e => ?_⟩
    have hw : ¬ wrongB l b = true := fun h => h3 ⟨b,hb,h⟩
    unfold wrongB at hw
    simp only [Bool.and_eq_true,decide_eq_true_eq] at hw
    have hid := idx_at hi hk.2
    have h1' : atF l b.f1 = ((i + 1 : Nat) : Int) := by
      unfold atF
      rw [e,if_pos (List.getElem_mem hi),hid]
    rw [h1'] at hw
    have h0' : atF l b.f0 < ((i + 1 : Nat) : Int) := by
      rcases Int.lt_or_le (atF l b.f0) ((i + 1 : Nat) : Int) with h | h
      · exact h
      · exact absurd ⟨by omega,h⟩ hw
    unfold atF at h0'
    split at h0'
    · exact (mem_take_idx (by omega)).2 (by omega)
    · omega
  · rintro ⟨h2,h4⟩
    have hz : ∀ i (hi : i < l.length),(0 ≤ l[i] ∧ l[i] < P.Pq.length) ∧ l[i] ∉ l.take i ∧ ∀ b ∈ P.Bq,b.f1 = l[i] → b.f0 ∈ l.take i := fun i hi => by
      cases i with
      | zero =>
        have e : l[0] = 0 := by
          cases l with
          | nil => cases hi
          | cons a t => simpa using h2
        rw [e]
        refine ⟨⟨by omega,by omega⟩,by simp,fun b hb e => ?_⟩
        have := hg.pair b hb
        omega
      | succ i => exact mem_rd.1 (h4 i hi)
    refine ⟨fun i hi => (hokI i (List.mem_range.1 hi)).2 ⟨(hz i (List.mem_range.1 hi)).1,(hz i (List.mem_range.1 hi)).2.1⟩,h2,?_⟩
    rintro ⟨b,hb,hw⟩
    unfold wrongB at hw
    simp only [Bool.and_eq_true,decide_eq_true_eq] at hw
    obtain ⟨w1,w2⟩ := hw
    have hm : b.f1 ∈ l := by
      unfold atF at w1
      split at w1
      · assumption
      · omega
    have hil := List.idxOf_lt_length_iff.2 hm
    have e : l[l.idxOf b.f1] = b.f1 := List.getElem_idxOf hil
    have := (hz _ hil).2.2 b hb e.symm
    have h0 := (mem_take_idx (by omega)).1 this
    have hm0 : b.f0 ∈ l := List.mem_of_mem_take this
    unfold atF at w2
    rw [if_pos hm,if_pos hm0] at w2
    omega
theorem Path.pos {P : R24} {l : List Int} (h : Path P l) : 0 < l.length := by
  cases l with
  | nil => cases h.1
  | cons a t => simp
theorem Path.inP {P : R24} {l : List Int} (hg : Good P) (h : Path P l) : InP P l := fun x hx => by
  obtain ⟨i,hi,rfl⟩ := List.getElem_of_mem hx
  have := hg.one
  cases i with
  | zero =>
    have e : l[0] = 0 := by
      have := h.1
      cases l with
      | nil => cases hi
      | cons a t => simpa using this
    rw [e]; omega
  | succ i => exact (mem_rd.1 (h.2 i hi)).1
theorem Path.nodup {P : R24} {l : List Int} (h : Path P l) : l.Nodup := by
  rw [List.nodup_iff_pairwise_ne,List.pairwise_iff_getElem]
  intro i j hi hj hij e
  obtain ⟨k,rfl⟩ : ∃ k,j = k + 1 := ⟨j - 1,by omega⟩
  have := (mem_rd.1 (h.2 k hj)).2.1
  exact this (List.mem_take_iff_getElem.2 ⟨i,by omega,e⟩)
theorem m58_L1_val {n : Nat} {P : R24} {l : List Int} (hP : FewP P) (hl : l.length ≤ 1000) (h0 : 0 < l.length) (hn : 2000 < n) {body : (Int → Option Bool) → Int → Option Bool} {K : Unit → Option Bool}
    (hb : ∀ nx x,body nx x = (if (decide (x < (l.length : Int))) = true then ((slc l (0 : Int) x).bind fun s_10 => ((m25 n P s_10).bind fun y_11 => ((getIdx l x).bind fun y_12 => ((m57 n y_11 y_12).bind fun y_13 => (if (!y_13) = true then (some false) else (letM ((IntKind.wrap .i64 (x + (1 : Int)))) fun t5_14 => (nx t5_14))))))) else (K ()))) :
    loopM body n 1 = if ((List.range (l.length - 1)).all fun i => (rd P (l.take (i + 1))).contains (l.getD (i + 1) 0)) = true then K () else some false := by
  have hstep : ∀ (i : Nat),i < l.length - 1 → ∀ nx,body nx ((i + 1 : Nat) : Int) = if (!(rd P (l.take (i + 1))).contains (l.getD (i + 1) 0)) = true then (some false) else nx ((i + 1 + 1 : Nat) : Int) := fun i hi nx => by
    have hi' : i + 1 < l.length := by omega
    have hrl := rd_len (P := P) (path := l.take (i + 1))
    have hs : slc l 0 ((i + 1 : Nat) : Int) = some (l.take (i + 1)) := by
      have := slc_val (b := l) (l := 0) (h := ((i + 1 : Nat) : Int)) (i := 0) (j := i + 1) rfl rfl (by omega) (by omega)
      simpa using this
    rw [hb,if_pos (decide_eq_true (by omega)),hs,oB,m25_val hP (by simp; omega) hn,oB,getIdx_at rfl hi',oB,m57_val (by have := hP.1; omega) (by have := hP.1; omega),oB,
      List.getD_eq_getElem?_getD,List.getElem?_eq_getElem hi',letM_eq,wInc (by omega)]
    rfl
  refine (loop_all (n := n) (fun i => ((i + 1 : Nat) : Int)) (l.length - 1) (fun i => (rd P (l.take (i + 1))).contains (l.getD (i + 1) 0)) (some false) (K ()) ?_ ?_ ?_ (by omega)).trans ?_
  · intro i hi hp nx
    rw [hstep i hi nx,hp,if_neg (by simp)]
  · intro i hi hp nx
    rw [hstep i hi nx,hp,if_pos (show (!false) = true from rfl)]
  · intro nx
    rw [hb,if_neg (by simp; omega)]
  · have : (∀ i,i < l.length - 1 → (rd P (l.take (i + 1))).contains (l.getD (i + 1) 0) = true) ↔ ((List.range (l.length - 1)).all fun i => (rd P (l.take (i + 1))).contains (l.getD (i + 1) 0)) = true := by
      rw [List.all_eq_true]
      exact ⟨fun h i hi => h i (List.mem_range.1 hi),fun h i hi => h i (List.mem_range.2 hi)⟩
    by_cases h : ((List.range (l.length - 1)).all fun i => (rd P (l.take (i + 1))).contains (l.getD (i + 1) 0)) = true
    · rw [if_pos h,if_pos (this.2 h)]
    · rw [if_neg h,if_neg (fun h' => h (this.1 h'))]
def permB (P : R24) (l : List Int) : Bool := decide (l.length = P.Pq.length) && pathB P l
theorem m58_val {n : Nat} {P : R24} {l : List Int} (hP : FewP P) (h1 : 1 ≤ P.Pq.length) (hn : 2000 < n) : m58 n P l = some (permB P l) := by
  have hP1 := hP.1
  unfold m58 permB
  by_cases hl : l.length = P.Pq.length
  · have hl' : (l.length : Int) = P.Pq.length := by omega
    rw [decide_eq_true hl',decide_eq_true hl,Bool.not_true,Bool.not_false,gdO_true,Bool.true_and]
    obtain ⟨a,t,rfl⟩ : ∃ a t,l = a :: t := by
      cases l with
      | nil => simp at hl; omega
      | cons a t => exact ⟨a,t,rfl⟩
    rw [get0,oB]
    unfold pathB
    by_cases ha : a = 0
    · subst ha
      rw [if_neg (by simp),jn,m58_L1_val (n := n) (P := P) (l := 0 :: t) (K := fun _ => some true) hP (by omega) (by simp) hn (fun nx x => by rw [m58_L1]),decide_eq_true (by rfl),Bool.true_and]
      cases ((List.range ((0 :: t).length - 1)).all fun i => (rd P ((0 :: t).take (i + 1))).contains ((0 :: t).getD (i + 1) 0)) <;> rfl
    · rw [if_pos (by simpa using ha),decide_eq_false (by simpa using ha)]; rfl
  · have hl' : ¬ (l.length : Int) = P.Pq.length := by omega
    rw [decide_eq_false hl',decide_eq_false hl,Bool.not_false,Bool.not_true,gdO_false,oB,Bool.true_or,if_pos rfl]; rfl
theorem m42_val {n : Nat} {P : R24} {l : List Int} (hg : Good P) (hn : 2000 < n) : m42 n P l = some (permB P l) := by
  have hP1 := hg.few.1
  unfold m42 permB
  by_cases hl : l.length = P.Pq.length
  · have hl' : (l.length : Int) = P.Pq.length := by omega
    rw [decide_eq_true hl',decide_eq_true hl,gdO_true,eta24,m75_val hg.few hg.inb (by omega) hn,oB,path_eq hg]
  · have hl' : ¬ (l.length : Int) = P.Pq.length := by omega
    rw [decide_eq_false hl',decide_eq_false hl,gdO_false,oB]; rfl
end Go.AB
