import Derived.Test.YtpccmcepgllccaaGreatMb
set_option linter.unusedVariables false
namespace Go.AB
open Go
theorem map_at {α : Type} {f : Int → α} {l : List Int} {i : Nat} (h : i < l.length) : getIdx (l.map f) (i : Int) = some (f l[i]) := by
  rw [getIdx_at rfl (by rw [List.length_map]; exact h),List.getElem_map]
theorem slc_pre {a b : List Int} : slc (a ++ b) 0 ((a.length : Nat) : Int) = some a := by
  rw [slc_val (l := 0) (h := ((a.length : Nat) : Int)) (i := 0) (j := a.length) rfl rfl (by omega) (by simp)]
  simp
def e24 (l : List R63) (d : List Int) (m : Bool) (b x : Int) : R24 := R24.mk l (d ++ [x]) m b
def e36 (l : List R63) (d : List Int) (m : Bool) (b x : Int) : R36 := R36.mk l (d ++ [x]) m b
theorem kids24 {l : List R63} {d : List Int} {m : Bool} {b : Int} : kids l d m b = (rdI l d).map (e24 l d m b) := kids_eq
theorem kids36 {l : List R63} {d : List Int} {m : Bool} {b : Int} : (kids l d m b).map cv = (rdI l d).map (e36 l d m b) := by
  rw [kids24,List.map_map]; rfl
theorem wrong_sim {n : Nat} (hn : 6000 < n) {J : List R63} {m : Bool} {L : Int} (h12 : J.length ≤ 12) : ∀ (f : Nat) (y : R27) (l : List Int) (path : List Int),Fit n f y → frmF f y = true → l.length ≤ 1000 → path.length ≤ l.length →
    ∃ w b,m33F n f ⟨J,l,m,L⟩ y = some (w,b) ∧ m50F n f ⟨J,l,m,L⟩ (ownF f y) path = some (b,path ++ w) ∧ (b = false → w = []) ∧ w.length ≤ J.length - l.length ∧
      (b = false → ∀ o,comp J o → o.take l.length = l → L ≤ val J o m)
  | f + 1,y,l,path,hf,hfr,hl,hp => by
    obtain ⟨h1,h2,h3⟩ := hf
    have hfr' : (nodeB y && y.Kd.all fun z => frmF f z.out) = true := hfr
    rw [Bool.and_eq_true,List.all_eq_true] at hfr'
    obtain ⟨hnb,hks⟩ := hfr'
    obtain ⟨_,hk100,hl40,_,_,_⟩ := nodeB_iff.1 hnb
    have hol := ownF_len (f := f) (y := y)
    unfold m33F m33B m50F m50B
    dsimp only
    rw [hol,show (ownF (f + 1) y).Lf = y.Lf from rfl,show (ownF (f + 1) y).Sp = y.Sp from rfl]
    by_cases hk : y.Kd.length = 0
    · obtain ⟨b,e1,e2⟩ := leaf_same (n := n) (l := J) (d := l) (a := y.Lf) (m := m) (b := L) h12 hl hn
      refine ⟨[],!b,?_,?_,fun _ => rfl,by simp,fun hb o ho hpo => ?_⟩
      · rw [if_pos (decide_eq_true (by omega)),e2,Option.bind_some]
      · rw [if_pos (decide_eq_true (by omega)),e1,Option.bind_some,List.append_nil]
      · have hb' : b = true := by simpa using hb
        rw [hb'] at e2
        exact m55_true h12 hl hn e2 ho hpo
    · rw [if_neg (by rw [decide_eq_true_eq]; omega),if_neg (by rw [decide_eq_true_eq]; omega),m56_val (by omega) hl (by omega),m29_val (by omega) hl (by omega),Option.bind_some,Option.bind_some]
      by_cases hs : y.Sp = 0 ∧ possB J l L = true ∧ l.length ≠ J.length
      · rw [if_pos hs,if_pos hs,kids36,kids24]
        dsimp only
        rw [List.length_map,List.length_map]
        by_cases hc : (rdI J l).length = y.Kd.length
        · rw [if_neg (by simp [hc]),if_neg (by simp [hc]),jn,jn]
          obtain ⟨_,hpb,hne⟩ := hs
          obtain ⟨hv,_,hor⟩ := poss_iff hpb
          have hsh := nodup_le _ _ (ord_iff.1 hor).1 (ord_iff.1 hor).2
          have hlt : l.length < J.length := by omega
          have key : ∀ (k i nn nn' : Nat),i + k = y.Kd.length → k < nn → k < nn' → ∃ w b,
              loopM (m33_L1 n y (m33F n f) ((rdI J l).map (e24 J l m L),true) fun _ => some (([] : List Int),false)) nn (i : Int) = some (w,b) ∧
              loopM (m50_L1 n (ownF (f + 1) y) (m50F n f) ((rdI J l).map (e36 J l m L),true) fun p_25 => some (false,p_25)) nn' ((i : Int),path) = some (b,path ++ w) ∧ (b = false → w = []) ∧ w.length ≤ J.length - l.length ∧
              (b = false → ∀ j (hj : j < (rdI J l).length),i ≤ j → ∀ o,comp J o → o.take (l.length + 1) = l ++ [(rdI J l)[j]] → L ≤ val J o m) := by
            intro k
            induction k with
            | zero =>
              rintro i (_ | nn) (_ | nn') hik hnn hnn'
              · omega
              · omega
              · omega
              refine ⟨[],false,?_,?_,fun _ => rfl,by simp,fun _ j hj hij => by omega⟩
              · rw [loopM_succ,m33_L1]
                dsimp only
                rw [List.length_map,if_neg (by rw [decide_eq_true_eq]; omega)]
              · rw [loopM_succ,m50_L1]
                dsimp only
                rw [hol,if_neg (by rw [decide_eq_true_eq]; omega),List.append_nil]
            | succ k ih =>
              rintro i (_ | nn) (_ | nn') hik hnn hnn'
              · omega
              · omega
              · omega
              have hi : i < y.Kd.length := by omega
              have hir : i < (rdI J l).length := by omega
              have hz := List.getElem_mem hi
              obtain ⟨w',b',e1,e2,e3,e4,e5⟩ := wrong_sim hn (J := J) (m := m) (L := L) h12 f (y.Kd[i]).out (l ++ [(rdI J l)[i]]) (path ++ [(i : Int)]) (h3 _ hz) (hks _ hz) (by simp; omega) (by simp; omega)
              have g24 : getIdx ((rdI J l).map (e24 J l m L)) (i : Int) = some (e24 J l m L (rdI J l)[i]) := map_at hir
              have g36 : getIdx ((rdI J l).map (e36 J l m L)) (i : Int) = some (e36 J l m L (rdI J l)[i]) := map_at hir
              have hw' : w'.length ≤ J.length - (l.length + 1) := by simpa using e4
              have s33 : m33_L1 n y (m33F n f) ((rdI J l).map (e24 J l m L),true) (fun _ => some (([] : List Int),false)) (loopM (m33_L1 n y (m33F n f) ((rdI J l).map (e24 J l m L),true) fun _ => some (([] : List Int),false)) nn) (i : Int) =
                  if b' = true then some ((i : Int) :: w',true) else loopM (m33_L1 n y (m33F n f) ((rdI J l).map (e24 J l m L),true) fun _ => some (([] : List Int),false)) nn ((i + 1 : Nat) : Int) := by
                rw [m33_L1]
                dsimp only
                rw [List.length_map,if_pos (decide_eq_true (by omega)),g24,Option.bind_some,getIdx_at rfl hi,Option.bind_some,eta27]
                dsimp only [e24]
                rw [e1,Option.bind_some,apd_val (by simp; omega),Option.bind_some,letM_eq,wInc (by omega)]
                rfl
              have s50 : m50_L1 n (ownF (f + 1) y) (m50F n f) ((rdI J l).map (e36 J l m L),true) (fun p_25 => some (false,p_25)) (loopM (m50_L1 n (ownF (f + 1) y) (m50F n f) ((rdI J l).map (e36 J l m L),true) fun p_25 => some (false,p_25)) nn') ((i : Int),path) =
                  if b' = true then some (true,path ++ [(i : Int)] ++ w') else loopM (m50_L1 n (ownF (f + 1) y) (m50F n f) ((rdI J l).map (e36 J l m L),true) fun p_25 => some (false,p_25)) nn' (((i + 1 : Nat) : Int),path) := by
                rw [m50_L1]
                dsimp only
                rw [hol,if_pos (decide_eq_true (by omega)),ownF_at hi,Option.bind_some,apd_val (by simp; omega),Option.bind_some,g36,Option.bind_some]
                dsimp only [e36]
                rw [show m50F n f ⟨J,l ++ [(rdI J l)[i]],m,L⟩ (R40.mk (K40.of (ownF f (y.Kd[i]).out)).out.Sp (K40.of (ownF f (y.Kd[i]).out)).out.Kd (K40.of (ownF f (y.Kd[i]).out)).out.Lf) (path ++ [(i : Int)]) = _ from e2,Option.bind_some]
                dsimp only
                by_cases hb : b' = true
                · rw [if_pos hb,if_pos hb]
                · rw [if_neg hb,if_neg hb,e3 (by simpa using hb),List.append_nil]
                  have hlen : IntKind.wrap .i64 (((path ++ [(i : Int)]).length : Int) - 1) = ((path.length : Nat) : Int) := by
                    rw [wrap64 (by simp only [List.length_append,List.length_singleton]; omega) (by simp only [List.length_append,List.length_singleton]; omega)]; simp
                  rw [hlen,slc_pre,Option.bind_some,letM_eq,wInc (by omega)]
              by_cases hb : b' = true
              · refine ⟨(i : Int) :: w',true,?_,?_,(fun h => by cases h),(by simp; omega),(fun h => by cases h)⟩
                · rw [loopM_succ,s33,if_pos hb]
                · rw [loopM_succ,s50,if_pos hb,List.append_assoc]; rfl
              · have hbf : b' = false := by simpa using hb
                obtain ⟨w,b,q1,q2,q3,q4,q5⟩ := ih (i + 1) nn nn' (by omega) (by omega) (by omega)
                refine ⟨w,b,?_,?_,q3,q4,fun hbb j hj hij o ho hpo => ?_⟩
                · rw [loopM_succ,s33,if_neg hb,q1]
                · rw [loopM_succ,s50,if_neg hb,q2]
                · rcases Nat.lt_or_ge i j with h | h
                  · exact q5 hbb j hj h o ho hpo
                  · have : j = i := by omega
                    subst this
                    exact e5 hbf o ho (by rw [List.length_append,List.length_singleton]; exact hpo)
          obtain ⟨w,b,q1,q2,q3,q4,q5⟩ := key y.Kd.length 0 n n (by omega) h1 h1
          refine ⟨w,b,q1,q2,q3,q4,fun hb o ho hpo => ?_⟩
          have hlo : l.length < o.length := by have := ho.2; omega
          obtain ⟨q,rfl⟩ : ∃ q,o = l ++ q := ⟨o.drop l.length,by have := List.take_append_drop l.length o; rw [hpo] at this; exact this.symm⟩
          cases q with
          | nil => rw [List.append_nil] at hlo; omega
          | cons x t =>
            have hx : x ∈ rdI J l := (rd_perm ho).mem_iff.2 (by simp)
            obtain ⟨j,hj,ej⟩ := List.getElem_of_mem hx
            refine q5 hb j hj (by omega) _ ho ?_
            rw [ej,List.take_append,List.take_of_length_le (by omega),Nat.add_sub_cancel_left]
            rfl
        · rw [if_pos (by simp; omega),if_pos (by simp; omega)]
          exact ⟨[],true,rfl,by rw [List.append_nil],(fun h => rfl),by simp,(fun h => by cases h)⟩
      · rw [if_neg hs,if_neg hs]
        exact ⟨[],true,rfl,by rw [List.append_nil]; rfl,(fun h => rfl),by simp,(fun h => by cases h)⟩
end Go.AB
