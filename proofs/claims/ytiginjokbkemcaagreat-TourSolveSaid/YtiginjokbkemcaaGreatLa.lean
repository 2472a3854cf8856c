import Derived.Test.YtiginjokbkemcaaGreatD
import Derived.Test.YtiginjokbkemcaaGreatLx
set_option linter.unusedVariables false
namespace Go.AB
open Go
theorem m4_eval : m4 200000 = some true := by kernel_rfl
theorem loop_cnt {σ R : Type} {body : (σ → Option R) → σ → Option R} (enc : Nat → σ) (len : Nat) (K : Option R)
    (go : ∀ i,i < len → ∀ nx,body nx (enc i) = nx (enc (i + 1))) (fin : ∀ nx,body nx (enc len) = K) {n : Nat} (hn : len < n) : loopM body n (enc 0) = K := by
  rcases loop_find enc len (fun _ => false) (fun _ => K) K (fun i h _ => go i h) (fun i h hp => by cases hp) fin hn with ⟨i,h1,h2,_⟩ | ⟨_,e⟩
  · cases h2
  · exact e
theorem loop_cntA {σ R : Type} {body : (σ → Option R) → σ → Option R} (enc : Nat → σ) (a len : Nat) (K : Option R) (ha : a ≤ len)
    (go : ∀ i,a ≤ i → i < len → ∀ nx,body nx (enc i) = nx (enc (i + 1))) (fin : ∀ nx,body nx (enc len) = K) {n : Nat} (hn : len < n) : loopM body n (enc a) = K := by
  have := loop_cnt (fun i => enc (a + i)) (len - a) K (fun i h nx => go (a + i) (by omega) (by omega) nx) (fun nx => by
    show body nx (enc (a + (len - a))) = K
    rw [show a + (len - a) = len from by omega]; exact fin nx) (n := n) (by omega)
  exact this
theorem loop_run {σ R : Type} {body : (σ → Option R) → σ → Option R} {n : Nat} {x0 : σ} (enc : Nat → σ) (len : Nat) (K : Option R) (h0 : x0 = enc 0)
    (go : ∀ i,i < len → ∀ nx,body nx (enc i) = nx (enc (i + 1))) (fin : ∀ nx,body nx (enc len) = K) (hn : len < n) : loopM body n x0 = K := by
  subst h0
  exact loop_cnt enc len K go fin hn
theorem wInc {i : Nat} (h : i ≤ 1000000000) : IntKind.wrap .i64 ((i : Int) + 1) = ((i + 1 : Nat) : Int) := wrap64 (by omega) (by omega)
def irange (N : Nat) : List Int := (List.range N).map fun (i : Nat) => (i : Int)
theorem mem_irange {N : Nat} {x : Int} : x ∈ irange N ↔ 0 ≤ x ∧ x < N := by
  unfold irange
  rw [List.mem_map]
  constructor
  · rintro ⟨i,hi,rfl⟩
    have := List.mem_range.1 hi
    omega
  · rintro ⟨h0,h1⟩
    exact ⟨x.toNat,List.mem_range.2 (by omega),by omega⟩
theorem irange_succ (N : Nat) : irange (N + 1) = irange N ++ [(N : Int)] := by
  unfold irange
  rw [List.range_succ,List.map_append]; rfl
theorem irange_length (N : Nat) : (irange N).length = N := by simp [irange]
theorem irange_nodup (N : Nat) : (irange N).Nodup := by
  unfold irange
  rw [List.nodup_iff_pairwise_ne] at *
  refine List.Pairwise.map _ (R := (· ≠ ·)) ?_ (List.nodup_iff_pairwise_ne.1 List.nodup_range)
  intro a b h e
  exact h (by omega)
def frow {α : Type} (N : Nat) (g : Nat → α) : List α := (List.range N).map g
theorem frow_len {α : Type} {N : Nat} {g : Nat → α} : (frow N g).length = N := by simp [frow]
theorem frow_at {α : Type} {N : Nat} {g : Nat → α} {y : Int} (h0 : 0 ≤ y) (h1 : y < N) : getIdx (frow N g) y = some (g y.toNat) := by
  refine getIdx_q (k := y.toNat) (by omega) ?_
  unfold frow
  rw [List.getElem?_map,List.getElem?_range (by omega)]; rfl
theorem frow_set {α : Type} {N : Nat} {g : Nat → α} {y : Int} {v : α} (h0 : 0 ≤ y) (h1 : y < N) : setIdx (frow N g) y v = some (frow N fun j => if j = y.toNat then v else g j) := by
  rw [setIdx_at (k := y.toNat) (by omega) (by rw [frow_len]; omega)]
  congr 1
  apply List.ext_getElem?
  intro i
  rcases Nat.lt_or_ge i N with hi | hi
  · by_cases e : i = y.toNat
    · subst e
      rw [List.getElem?_set_self (by rw [frow_len]; exact hi)]
      unfold frow
      rw [List.getElem?_map,List.getElem?_range hi]; simp
    · rw [List.getElem?_set_ne (by omega)]
      unfold frow
      rw [List.getElem?_map,List.getElem?_map,List.getElem?_range hi]; simp [e]
  · rw [List.getElem?_eq_none (by simp [frow_len]; exact hi),List.getElem?_eq_none (by rw [frow_len]; exact hi)]
theorem frow_congr {α : Type} {N : Nat} {g g' : Nat → α} (h : ∀ j,j < N → g j = g' j) : frow N g = frow N g' := by
  unfold frow
  exact List.map_congr_left fun j hj => h j (List.mem_range.1 hj)
theorem frow_rep {α : Type} {N : Nat} {v : α} : List.replicate N v = frow N fun _ => v := by
  unfold frow
  induction N with
  | zero => rfl
  | succ N ih => rw [List.replicate_succ',List.range_succ,List.map_append,ih]; rfl
theorem m57_val {n : Nat} {l : List Int} {a : Int} (hn : l.length < n) (hb : l.length ≤ 1000000) : m57 n l a = some (l.contains a) := by
  unfold m57
  rw [jn]
  refine loop_findP (fun i => (i : Int)) l.length (fun i => (l[i]?).any fun y => decide (y = a)) (fun _ => some true) (some false) (fun o => o = some (l.contains a)) ?_ ?_ ?_ hn (fun i h1 h2 _ => ?_) fun h1 => ?_
  · intro i hi hp nx
    rw [List.getElem?_eq_getElem hi] at hp
    rw [m57_L1,if_pos (by simp; omega),getIdx_at rfl hi,oB,if_neg (by simpa using hp),letM_eq,wrap64 (by omega) (by omega)]
    rfl
  · intro i hi hp nx
    rw [List.getElem?_eq_getElem hi] at hp
    rw [m57_L1,if_pos (by simp; omega),getIdx_at rfl hi,oB,if_pos (by simpa using hp)]
  · intro nx
    rw [m57_L1,if_neg (by simp)]
  · rw [List.getElem?_eq_getElem h1] at h2
    congr 1
    symm
    rw [List.contains_iff_mem]
    have : l[i] = a := by simpa using h2
    rw [← this]; exact List.getElem_mem h1
  · congr 1
    symm
    rw [← Bool.not_eq_true,List.contains_iff_mem]
    intro h
    obtain ⟨i,hi,e⟩ := List.getElem_of_mem h
    have := h1 i hi
    rw [List.getElem?_eq_getElem hi,e] at this
    simp at this
def okB (path : List Int) (i : Int) (b : R71) : Bool := !decide (b.f1 = i) || path.contains b.f0
def okF (P : R24) (path : List Int) (i : Int) : Bool := !path.contains i && P.Bq.all (okB path i)
def rd (P : R24) (path : List Int) : List Int := (irange P.Pq.length).filter (okF P path)
def FewP (P : R24) : Prop := P.Pq.length ≤ 60 ∧ P.Bq.length ≤ 200
def InB (P : R24) : Prop := ∀ b ∈ P.Bq,(0 ≤ b.f0 ∧ b.f0 < P.Pq.length) ∧ (0 ≤ b.f1 ∧ b.f1 < P.Pq.length)
def InP (P : R24) (l : List Int) : Prop := ∀ x ∈ l,0 ≤ x ∧ x < P.Pq.length
theorem eta24 (P : R24) : R24.mk P.Pq P.Bq = P := rfl
theorem all_take {α : Type} {p : α → Bool} {l : List α} {i : Nat} (hi : i < l.length) : (l.take (i + 1)).all p = ((l.take i).all p && p l[i]) := by
  rw [List.take_succ_eq_append_getElem hi,List.all_append]; simp
theorem any_take {α : Type} {p : α → Bool} {l : List α} {i : Nat} (hi : i < l.length) : (l.take (i + 1)).any p = ((l.take i).any p || p l[i]) := by
  rw [List.take_succ_eq_append_getElem hi,List.any_append]; simp
theorem filter_irange {p : Int → Bool} (k : Nat) : (irange (k + 1)).filter p = (irange k).filter p ++ if p k = true then [(k : Int)] else [] := by
  rw [irange_succ,List.filter_append]
  congr 1
  by_cases h : p k = true
  · rw [if_pos h,List.filter_cons_of_pos h]; rfl
  · rw [if_neg h,List.filter_cons_of_neg h]; rfl
theorem filter_le {p : Int → Bool} (k : Nat) : ((irange k).filter p).length ≤ k := by
  have := List.length_filter_le p (irange k)
  rwa [irange_length] at this
theorem m25_val {n : Nat} {P : R24} {path : List Int} (hP : FewP P) (hl : path.length ≤ 1000) (hn : 2000 < n) : m25 n P path = some (rd P path) := by
  obtain ⟨hP1,hP2⟩ := hP
  unfold m25
  rw [jn]
  refine loop_cnt (fun i => ((i : Int),(irange i).filter (okF P path))) P.Pq.length _ (fun i hi nx => ?_) (fun nx => ?_) (by omega)
  · rw [m25_L3,if_pos (by simp; omega),m57_val (by omega) (by omega),oB]
    rw [jn]
    refine Eq.trans (loop_run (n := n) (fun k => ((!path.contains (i : Int)) && (P.Bq.take k).all (okB path i),(k : Int))) P.Bq.length (jn (fun p_71 : (List Int) => (letM ((IntKind.wrap .i64 ((i : Int) + (1 : Int)))) fun t6_73 => (nx (t6_73,p_71)))) fun k_72 => (if ((!path.contains (i : Int)) && P.Bq.all (okB path i)) = true then ((apd ((irange i).filter (okF P path)) ([(i : Int)] : List Int)).bind fun l2_70 => (k_72 l2_70)) else (k_72 ((irange i).filter (okF P path))))) (by simp) (fun k hk nx2 => ?_) (fun nx2 => ?_) (by omega)) ?_
    · rw [m25_L4,if_pos (by simp; omega)]
      rw [getIdx_at (k := k) rfl hk]
      dsimp only
      cases hc : ((!path.contains (i : Int)) && (P.Bq.take k).all (okB path i)) with
      | false =>
        rw [gdO_false,oB,Bool.false_and,gdO_false,oB,gdO_false,oB,letM_eq,wInc (i := k) (by omega)]
        rw [all_take hk,← Bool.and_assoc,hc]; rfl
      | true =>
        rw [gdO_true,oB,Bool.true_and]
        have hw : IntKind.wrap .i64 ((k : Int) + 1) = ((k + 1 : Nat) : Int) := wInc (by omega)
        by_cases e : P.Bq[k].f1 = (i : Int)
        · rw [decide_eq_true e]
          simp only [Bool.not_true,Bool.not_false,gdO_true,oB,Bool.false_or,Bool.true_and]
          rw [m57_val (by omega) (by omega),oB,letM_eq,hw,all_take hk,← Bool.and_assoc,hc]
          unfold okB
          rw [decide_eq_true e]; rfl
        · rw [decide_eq_false e]
          simp only [Bool.not_false,Bool.not_true,gdO_false,oB,Bool.true_or,Bool.and_true]
          rw [letM_eq,hw,all_take hk,← Bool.and_assoc,hc]
          unfold okB
          rw [decide_eq_false e]; rfl
    · rw [m25_L4,if_neg (by simp)]
      rw [List.take_length]
    · dsimp only [jn,letM]
      rw [wInc (i := i) (by omega)]
      have hfl := filter_le (p := okF P path) i
      rw [show ((!path.contains (i : Int)) && P.Bq.all (okB path i)) = okF P path i from rfl]
      by_cases hc : okF P path i = true
      · rw [if_pos hc,apd_val (by simp; omega),oB,filter_irange,if_pos hc]
      · rw [if_neg hc,filter_irange,if_neg hc,List.append_nil]
  · rw [m25_L3,if_neg (by simp)]
    rfl
theorem m79o_val {n : Nat} {l : List Bool} (hl : l.length ≤ 1000000) : m79o n l = some l := by
  unfold m79o
  rw [apd_val (by simp; omega),oB]; rfl
theorem m54_val {n : Nat} {P : R24} {path : List Int} (hP : FewP P) (hB : InB P) (hI : InP P path) (hl : path.length ≤ 1000) (hn : 2000 < n) : m54 n P path = some (rd P path) := by
  obtain ⟨hP1,hP2⟩ := hP
  unfold m54
  rw [mk_val (k := P.Pq.length) rfl rfl (by omega),oB,frow_rep,jn]
  refine loop_cnt (fun i => ((i : Int),frow P.Pq.length fun j => (path.take i).contains (j : Int))) path.length _ (fun i hi nx => ?_) (fun nx => ?_) (by omega)
  · obtain ⟨h0,h1⟩ := hI path[i] (List.getElem_mem hi)
    rw [m54_L1,if_pos (by simp; omega),getIdx_at rfl hi,oB,frow_at h0 h1,oB,frow_set h0 h1,oB,letM_eq,wInc (i := i) (by omega)]
    congr 2
    refine frow_congr fun j hj => ?_
    rw [List.take_succ_eq_append_getElem hi,List.contains_append]
    by_cases e : j = path[i].toNat
    · rw [if_pos e]
      have : path[i] = (j : Int) := by omega
      simp [this]
    · rw [if_neg e]
      have : ¬ (j : Int) = path[i] := by omega
      simp [this]
  · rw [m54_L1,if_neg (by simp)]
    rw [List.take_length,m79o_val (by rw [frow_len]; omega),oB,jn]
    refine loop_run (n := n) (fun k => ((k : Int),frow P.Pq.length fun j => path.contains (j : Int) || (P.Bq.take k).any fun b => !path.contains b.f0 && decide (b.f1 = (j : Int)))) P.Bq.length _ ?_ (fun k hk nx => ?_) (fun nx => ?_) (by omega)
    · simp
    · obtain ⟨⟨h0,h1⟩,h2,h3⟩ := hB P.Bq[k] (List.getElem_mem hk)
      rw [m54_L2,if_pos (by simp; omega),getIdx_at rfl hk,oB,frow_at h0 h1,oB]
      dsimp only [jn,letM]
      rw [wInc (i := k) (by omega)]
      have hc : ((P.Bq[k].f0.toNat : Nat) : Int) = P.Bq[k].f0 := by omega
      rw [hc]
      cases hx : path.contains P.Bq[k].f0 with
      | false =>
        rw [if_pos (show (!false) = true from rfl),frow_at h2 h3,oB,frow_set h2 h3,oB]
        congr 2
        refine frow_congr fun j hj => ?_
        rw [any_take hk,hx]
        by_cases e : j = P.Bq[k].f1.toNat
        · rw [if_pos e,decide_eq_true (by omega)]; simp
        · rw [if_neg e,decide_eq_false (by omega)]; simp
      | true =>
        rw [if_neg (by simp)]
        congr 2
        refine frow_congr fun j hj => ?_
        rw [any_take hk,hx]; simp
    · rw [m54_L2,if_neg (by simp)]
      rw [List.take_length,jn]
      have hbl : ∀ i : Nat,i < P.Pq.length → (!(path.contains (i : Int) || P.Bq.any fun b => !path.contains b.f0 && decide (b.f1 = (i : Int)))) = okF P path i := fun i hi => by
        unfold okF
        rw [Bool.not_or,List.not_any_eq_all_not]
        congr 2
        funext b
        unfold okB
        cases path.contains b.f0 <;> simp
      refine loop_cnt (fun i => ((i : Int),(irange i).filter (okF P path))) P.Pq.length _ (fun i hi nx => ?_) (fun nx => ?_) (by omega)
      · have hfl := filter_le (p := okF P path) i
        rw [m54_L3,if_pos (by simp [frow_len]; omega),frow_at (by omega) (by omega),oB]
        dsimp only [jn,letM]
        rw [wInc (i := i) (by omega),Int.toNat_natCast,hbl i hi]
        by_cases hc : okF P path i = true
        · rw [if_pos hc,apd_val (by simp; omega),oB,filter_irange,if_pos hc]
        · rw [if_neg hc,filter_irange,if_neg hc,List.append_nil]
      · rw [m54_L3,if_neg (by simp [frow_len])]
        rfl
end Go.AB
