import Derived.Test.YtpccmcepgllccaaGreatMe
set_option linter.unusedVariables false
namespace Go.AB
open Go
theorem val_bd7 {l : List R63} (hb : bd l) {o : List Int} (ho : inR l.length o) (hl : o.length ≤ 90) (most : Bool) : -1000000 ≤ val l o most ∧ val l o most ≤ 1000000000 := by
  have := foldN_inv (f := fun i n => if most = true then (if i = 0 ∨ n < lat l o i then lat l o i else n) else n + max 0 (lat l o i)) (s0 := (0 : Int)) (len := o.length) (I := fun i s => -1000000 ≤ s ∧ s ≤ 11000000 * (i : Int)) ⟨by omega,by omega⟩ (fun i s hi hs => by
    have hd := lat_bd hb ho (by omega) hi
    have : 0 ≤ max 0 (lat l o i) ∧ max 0 (lat l o i) ≤ 11000000 := ⟨Int.le_max_left _ _,Int.max_le.2 ⟨by omega,hd.2⟩⟩
    cases most with
    | true => rw [if_pos rfl]; split <;> omega
    | false => rw [if_neg (by simp)]; omega) o.length (Nat.le_refl _)
  unfold val
  omega
theorem m20F_val {n : Nat} : ∀ (f : Nat) (y : R27),Fit n f y → m20F n f (ownF f y) = some y
  | f + 1,y,h => by
    obtain ⟨h1,h2,h3⟩ := h
    have hl := ownF_len (f := f) (y := y)
    unfold m20F m20B
    rw [jn]
    refine (loop_run (n := n) (fun i => ((i : Int),y.Kd.take i)) y.Kd.length (some y) (by simp) (fun i hi nx => ?_) (fun nx => ?_) h1)
    · rw [m20_L1,hl,if_pos (decide_eq_true (by omega))]
      dsimp only [letM]
      rw [ownF_at hi,Option.bind_some]
      rw [show m20F n f (R40.mk (K40.of (ownF f (y.Kd[i]).out)).out.Sp (K40.of (ownF f (y.Kd[i]).out)).out.Kd (K40.of (ownF f (y.Kd[i]).out)).out.Lf) = some (y.Kd[i]).out from m20F_val f _ (h3 _ (List.getElem_mem hi)),Option.bind_some]
      unfold apk
      rw [if_pos (by simp; omega),Option.bind_some,wIncL (by omega),K27.of_out,List.take_succ_eq_append_getElem hi]
    · rw [m20_L1,hl,if_neg (by simp),List.take_length]
      rfl
theorem chk0 {n : Nat} (hn : 6000 < n) {J : List R63} {l : List Int} {m : Bool} {L : Int} {y : R27} (h12 : J.length ≤ 12) (hl : l.length ≤ 1000) (hy : Fit n n y) (hp : possB J l L = true) (ht : treB n y = true) (hw : m33F n n ⟨J,l,m,L⟩ y = some ([],false)) :
    m7 n ⟨J,l,m,L⟩ (ownF n y) = some ([],0) ∧ m10 n ⟨J,l,m,L⟩ y = some ([],0) := by
  have hfr : frmF n y = true := by
    have := ht
    unfold treB at this
    rw [Bool.and_eq_true] at this
    exact this.1
  obtain ⟨w,b,e1,e2,e3,e4,e5⟩ := wrong_sim hn (J := J) (m := m) (L := L) h12 n y l [] hy hfr hl (by simp)
  rw [hw] at e1
  cases e1
  unfold m7 m10
  dsimp only
  rw [m27_val hl (by omega),m31_val (by omega) hl (by omega),Option.bind_some,Option.bind_some,hp]
  rw [if_neg (by simp),show (!(!true)) = true from rfl,gdO_true,eta27,eta40,m32_val (by omega) hy,Option.bind_some]
  unfold m28
  dsimp only
  rw [eta40,m22_val (by omega) hy,Option.bind_some,ht]
  rw [if_neg (by simp),if_neg (by simp),show m50 n ⟨J,l,m,L⟩ (ownF n y) [] = _ from e2,show m33 n ⟨J,l,m,L⟩ y = _ from hw,Option.bind_some,Option.bind_some]
  exact ⟨rfl,rfl⟩
theorem right0 {n : Nat} (hn : 6000 < n) {J : List R63} {l : List Int} {m : Bool} {L : Int} {y : R27} (h12 : J.length ≤ 12) (h0 : 0 < J.length) (hv : vld J = true) (hc : comp J l) (hL : val J l m = L) (hy : Fit n n y) (hp : possB J [] L = true) (ht : treB n y = true) (hw : m33F n n ⟨J,[],m,L⟩ y = some ([],false)) :
    m12 n J m ⟨l,L,ownF n y⟩ = some true ∧ m14 n J m ⟨l,L,y⟩ = some true := by
  have hl := hc.2
  have hb := (bd_vld hv).1
  obtain ⟨q1,q2⟩ := chk0 hn h12 (by simp) hy hp ht hw
  unfold m12 m14
  dsimp only
  rw [m34_val (by omega) (by omega) (by omega),m19_val (by omega) (by omega),Option.bind_some,Option.bind_some,if_pos hv,hv,if_pos hc.1]
  rw [decide_eq_true (show (0 : Int) = 0 from rfl),decide_eq_false (show ¬ (J.length : Int) = 0 by omega),decide_eq_true (show (l.length : Int) = (J.length : Int) by omega)]
  rw [show (!(((!true) || false) || (!true))) = true from rfl,gdO_true,gdO_true,m35_val hb (ord_iff.1 hc.1).2 (by omega) (by omega),m36_val (by omega) (by omega),Option.bind_some,Option.bind_some,hc.1,show (!((((!true) || false) || (!true)) || (!true))) = true from rfl,gdO_true,m15_val (by omega) (by omega) (by omega) (by omega),if_pos ⟨hv,hc.1⟩,Option.bind_some,letM_eq,hL,decide_eq_true (show L = L from rfl),if_neg (by simp),if_neg (by simp),eta27,eta40,q1,q2]
  exact ⟨rfl,rfl⟩
theorem m4_true {n : Nat} (hn : 6000 < n) (l : List R63) (m : Bool) : m4 n l m = some true := by
  unfold m4
  rw [m5_gen hn,Option.bind_some,show (!(!true)) = true from rfl,gdO_true,m17,Option.bind_some]
  by_cases h : l.length ≤ 10
  · have h13 : m13 n l = some l := m13_val (by omega) (by omega)
    rw [decide_eq_true (show (l.length : Int) ≤ 10 from by omega),if_neg (by simp),h13,Option.bind_some,m19_val (by omega) (by omega)]
    unfold m18
    rw [m25_val (by omega),Option.bind_some]
    by_cases hv : vld l = true
    · rw [hv,if_neg (by simp)]
      by_cases h0 : l.length = 0
      · rw [if_pos (decide_eq_true (by omega)),Option.bind_some,Option.bind_some,if_neg (by simp),if_pos (decide_eq_true (by omega))]
        rfl
      · rw [if_neg (by rw [decide_eq_true_eq]; omega)]
        by_cases h7 : l.length ≤ 7
        · rw [if_neg (by rw [decide_eq_true_eq]; omega),m39_val hv (by omega),Option.bind_some]
          obtain ⟨q1,_,q3⟩ := srch_min (l := l) (most := m) l.length [] [] (by simp) (by simp [ordB]) (.inl rfl)
          have h21 := m21_val (n := n) (l := l) (most := m) (by omega)
          rw [hv,if_pos rfl,if_pos h7] at h21
          generalize srch l m l.length [] [] = b at *
          have hbd := val_bd7 (bd_vld hv).1 (ord_iff.1 q1.1).2 (by have := q1.2; omega) m
          have hmin : ∀ o,comp l o → val l b m ≤ val l o m := fun o ho => q3 o ho List.nil_prefix
          obtain ⟨t,e,c',e1,e2⟩ := build_ok hn (m := m) hv (by omega) h7 hmin (by omega) (by omega) l.length n [] 1 0 (by simp) (by simp [ordB]) (by omega) (by omega) (by omega) (by omega) (by omega)
          have h40 : m40 n ⟨l,[],m,val l b m⟩ = some (t,e) := by
            unfold m40
            dsimp only
            rw [show m61 n ⟨l,[],m,val l b m⟩ 1 0 = _ from e1]; rfl
          dsimp only
          rw [h40,Option.bind_some]
          dsimp only
          rcases e2 with ⟨rfl,q⟩ | ⟨rfl,q4,q5,q6,y,hg⟩
          · rw [if_pos (show (!decide ((9 : Int) = 0)) = true from rfl),Option.bind_some,Option.bind_some,if_neg (by simp),if_neg (by rw [decide_eq_true_eq]; omega)]
            dsimp only
            have h5 : 5 < l.length := by
              rcases Nat.lt_or_ge 5 l.length with h | h
              · exact h
              · have : TT l.length ≤ 326 := by
                  have : l.length = 1 ∨ l.length = 2 ∨ l.length = 3 ∨ l.length = 4 ∨ l.length = 5 := by omega
                  rcases this with h | h | h | h | h <;> rw [h] <;> decide
                omega
            rw [if_pos (show (!decide ((9 : Int) = 0)) = true from rfl),decide_eq_true (show (5 : Int) < (l.length : Int) by omega)]
            rfl
          · rw [if_neg (show ¬ (!decide ((0 : Int) = 0)) = true from by simp),Option.bind_some,Option.bind_some,if_neg (by simp),if_neg (by rw [decide_eq_true_eq]; omega)]
            dsimp only
            have hkn : l.length < n := by omega
            have hfit := hg.fit n hkn
            obtain rfl := hg.own n hkn
            have hp : possB l [] (val l b m) = true := by
              unfold possB
              rw [hv,decide_eq_true (show (-1073741824 : Int) ≤ val l b m by omega),decide_eq_true (show val l b m ≤ (1073741824 : Int) by omega),decide_eq_true (show (0 : Int) < (l.length : Int) by omega)]
              simp [ordB]
            have ht : treB n y = true := by
              unfold treB
              have hd := hg.dep n hkn
              rw [hg.frm n hkn,hg.nod n hkn,decide_eq_true (show c' - 0 ≤ 2000 by omega),decide_eq_true (show depF n y ≤ 40 by omega)]; rfl
            obtain ⟨r1,r2⟩ := right0 hn (by omega) (by omega) hv q1 rfl hfit hp ht (hg.wr n hkn)
            have h20 : m20 n (ownF n y) = some y := m20F_val n y hfit
            rw [if_neg (show ¬ (!decide ((0 : Int) = 0)) = true from by simp)]
            rw [eta40,h20,Option.bind_some,Option.bind_some,h21,Option.bind_some,eta27,r2,Option.bind_some,gdO_true,Option.bind_some,gdO_true,r1,Option.bind_some,show (true && true) = true from rfl,gdO_true,m22_val (by omega) hfit,ht,Option.bind_some]
            dsimp only
            rw [decide_eq_true (show (0 : Int) = 0 from rfl),decide_eq_true (show val l b m = val l b m from rfl)]
            simp
        · rw [if_pos (decide_eq_true (by omega)),Option.bind_some,Option.bind_some,if_neg (by simp),if_neg (by rw [decide_eq_true_eq]; omega)]
          dsimp only
          rw [if_pos (show (!decide ((9 : Int) = 0)) = true from rfl),decide_eq_true (show (5 : Int) < (l.length : Int) by omega)]
          rfl
    · rw [(Bool.not_eq_true _).mp hv]
      rfl
  · rw [decide_eq_false (show ¬ (l.length : Int) ≤ 10 from by omega)]
    rfl
end Go.AB
