import Derived.Test.YtiginjokbkemcaaLm
set_option linter.unusedVariables false
namespace Go.AB
open Go
structure Alike (P Q : R24) : Prop where
  len : Q.Points.length = P.Points.length
  bef : Q.Before = P.Before
  D : ∀ i j,inN P i → inN P j → D Q i j = D P i j
theorem Alike.inN {P Q : R24} (h : Alike P Q) {i : Int} : inN Q i ↔ inN P i := by
  unfold Go.AB.inN
  rw [h.len]
theorem Alike.rd {P Q : R24} (h : Alike P Q) (l : List Int) : rd Q l = rd P l := by
  unfold Go.AB.rd okF
  rw [h.len,h.bef]
theorem Alike.okm {P Q : R24} (h : Alike P Q) {m : List Int} (hm : OKm P m) : OKm Q m := ⟨by rw [hm.len,h.len],hm.bd⟩
theorem Alike.seg {P Q : R24} (h : Alike P Q) : ∀ l : List Int,InP P l → segC (Go.AB.D Q) l = segC (Go.AB.D P) l
  | [],_ => rfl
  | [_],_ => rfl
  | a :: b :: t,hl => by
    rw [segC,segC,h.D a b (hl a (by simp)) (hl b (by simp)),Alike.seg h (b :: t) fun x hx => hl x (by simp [hx])]
theorem Alike.tour {P Q : R24} (h : Alike P Q) {l : List Int} (hl : InP P l) (h0 : 0 < l.length) (h1 : 1 ≤ P.Points.length) : tourL Q l = tourL P l := by
  unfold tourL
  rw [h.seg l hl,h.D _ _ (hl _ (lastP_mem h0)) ⟨by omega,by omega⟩]
theorem foldl_same {α S : Type} {f g : S → α → S} {I : S → Prop} : ∀ {l : List α} {s : S},I s → (∀ s x,x ∈ l → I s → f s x = g s x ∧ I (g s x)) → l.foldl f s = l.foldl g s
  | [],s,_,_ => rfl
  | x :: t,s,h,hs => by
    obtain ⟨e,hi⟩ := hs s x (by simp) h
    rw [List.foldl_cons,List.foldl_cons,e]
    exact foldl_same hi fun s y hy => hs s y (by simp [hy])
theorem Alike.shS {P Q : R24} (h : Alike P Q) (h1 : 1 ≤ P.Points.length) : ∀ (k : Nat) (l best : List Int),InP P l → 0 < l.length → l.length + k = P.Points.length → (best = [] ∨ OKt P best) → shS Q k l best = shS P k l best
  | 0,l,best,hl,h0,hk,hb => by
    unfold Go.AB.shS
    rw [h.tour hl h0 h1]
    rcases hb with rfl | ⟨b1,b2⟩
    · rw [if_pos (.inl rfl),if_pos (.inl rfl)]
    · rw [h.tour b2 (by omega) h1]
  | k + 1,l,best,hl,h0,hk,hb => by
    unfold Go.AB.shS
    rw [h.rd]
    refine foldl_same (I := fun b => b = [] ∨ OKt P b) hb fun s x hx hs => ?_
    have hx' := hl.snoc (rd_in _ hx)
    exact ⟨Alike.shS h h1 k (l ++ [x]) s hx' (by simp) (by simp; omega) hs,shS_ok k (l ++ [x]) s hx' (by simp; omega) hs⟩
theorem Alike.exact {P Q : R24} (h : Alike P Q) (hp : vP P = true) (hq : vP Q = true) : exactS Q = exactS P := by
  have hg := good_of hp
  have h1 := hg.one
  unfold exactS
  rw [hp,hq,h.len]
  have e := h.shS h1 (P.Points.length - 1) [0] [] (inP0 h1) (by simp) (by simp; omega) (.inl rfl)
  rw [e]
  by_cases h8 : 8 < P.Points.length
  · rw [if_pos h8,if_pos h8]
  · rw [if_neg h8,if_neg h8]
    have hne := shS_ne hg (P.Points.length - 1) [0] [] (by simp) (by simp; omega)
    rcases shS_ok (P := P) (P.Points.length - 1) [0] [] (inP0 h1) (by simp; omega) (.inl rfl) with h' | ⟨h2,h3⟩
    · exact absurd h' hne
    · rw [h.tour h3 (by omega) h1]
theorem TwoL.congr {c c' : Int → Int} {l : List Int} {s : Int} (hc : ∀ a ∈ l,c a = c' a) (h : TwoL c l s) : TwoL c' l s := by
  obtain ⟨a,b,ha,hb,hn,e⟩ := h.ex
  refine ⟨⟨a,b,ha,hb,hn,by rw [e,hc a ha,hc b hb]⟩,fun x y hx hy hxy => ?_⟩
  rw [← hc x hx,← hc y hy]
  exact h.le x y hx hy hxy
theorem TwoL.shift {c : Int → Int} {l : List Int} {s : Int} (q : Int) (h : TwoL c l s) : TwoL (fun a => c a + q) l (s + 2 * q) := by
  obtain ⟨a,b,ha,hb,hn,e⟩ := h.ex
  refine ⟨⟨a,b,ha,hb,hn,by omega⟩,fun x y hx hy hxy => ?_⟩
  have := h.le x y hx hy hxy
  omega
theorem oth_inN {P : R24} {x : Int} (h1 : 1 ≤ P.Points.length) (h : x ∈ oth (P.Points.length - 1)) : inN P x := by
  have := mem_oth.1 h
  exact ⟨by omega,by omega⟩
theorem Alike.ot {P Q : R24} {m : List Int} {v : Int} (h : Alike P Q) (h1 : 1 ≤ P.Points.length) (hv : OT P m v) : OT Q m v := by
  have h0 : Go.AB.inN P 0 := ⟨by omega,by omega⟩
  unfold OT
  rw [h.len]
  rcases hv with ⟨h3,e⟩ | ⟨r,s,h3,hp,hs,e⟩
  · exact .inl ⟨h3,by rw [h.D _ _ h0 ⟨by omega,by omega⟩,e]⟩
  · refine .inr ⟨r,s,h3,hp.congr (fun a ha b hb => ?_) (fun y hy => ?_),hs.congr fun a ha => ?_,e⟩
    · unfold cs
      rw [h.D _ _ (oth_inN h1 ha) (oth_inN h1 hb)]
    · obtain rfl : y = 1 := by simpa using hy
      exact mem_oth.2 (by omega)
    · unfold cs
      rw [h.D _ _ h0 (oth_inN h1 ha)]
theorem sum_add {q : Int} : ∀ m : List Int,(m.map (· + q)).sum = m.sum + q * (m.length : Int)
  | [] => by simp
  | a :: t => by
    rw [List.map_cons,List.sum_cons,sum_add t,List.sum_cons,List.length_cons,Int.natCast_succ,Int.mul_add]
    omega
theorem OT.more {P : R24} {m : List Int} {v q : Int} (hm : m.length = P.Points.length) (h1 : 1 ≤ P.Points.length) (hv : OT P m v) : OT P (m.map (· + q)) v := by
  rcases hv with ⟨h3,e⟩ | ⟨r,s,h3,hp,hs,e⟩
  · exact .inl ⟨h3,e⟩
  · have h0 : inN P 0 := ⟨by omega,by omega⟩
    have hmu : ∀ x,inN P x → mu (m.map (· + q)) x = mu m x + q := fun x hx => by
      obtain ⟨q0,q1⟩ := hx
      unfold mu
      rw [List.getD_eq_getElem?_getD,List.getD_eq_getElem?_getD,List.getElem?_map,List.getElem?_eq_getElem (by omega)]; rfl
    have hcs : ∀ x y,inN P x → inN P y → cs P m x y + 2 * q = cs P (m.map (· + q)) x y := fun x y hx hy => by
      unfold cs
      rw [hmu x hx,hmu y hy]; omega
    refine .inr ⟨r + 2 * q * ((P.Points.length - 2 : Nat) : Int),s + 2 * (2 * q),h3,(hp.shift (2 * q)).congr (fun a ha b hb => hcs a b (oth_inN h1 ha) (oth_inN h1 hb)) (fun y hy => ?_),(hs.shift (2 * q)).congr fun a ha => hcs 0 a h0 (oth_inN h1 ha),?_⟩
    · obtain rfl : y = 1 := by simpa using hy
      exact mem_oth.2 (by omega)
    · obtain ⟨k,hk⟩ : ∃ k,P.Points.length = k + 2 := ⟨P.Points.length - 2,by omega⟩
      rw [sum_add,hm,hk,e,show k + 2 - 2 = k from by omega,show ((k + 2 : Nat) : Int) = (k : Int) + 2 from by omega,Int.mul_add q]
      have e1 : 2 * q * (k : Int) = 2 * (q * (k : Int)) := by rw [Int.mul_assoc]
      rw [e1]
      generalize q * (k : Int) = z
      omega
theorem wrap_near {y q B : Int} (hB : 0 ≤ B ∧ B ≤ 1000000) (hy : -B ≤ y ∧ y ≤ B) (h : -B ≤ IntKind.wrap .i64 (y + IntKind.wrap .i64 q) ∧ IntKind.wrap .i64 (y + IntKind.wrap .i64 q) ≤ B) :
    IntKind.wrap .i64 (y + IntKind.wrap .i64 q) = y + IntKind.wrap .i64 q := by
  simp [IntKind.wrap,IntKind.signed,IntKind.bits] at h ⊢
  omega
theorem m5_L1_val {n : Nat} {m : List Int} {a : R44} (hm : m.length ≤ 1000) (hn : 2000 < n) {K : List Int → Option Bool} : loopM (m5_L1 n m a K) n ((0 : Int),([] : List Int)) = K (m.map fun y => IntKind.wrap .i64 (y + IntKind.wrap .i64 a.f0)) := by
  refine loop_run (n := n) (fun i => ((i : Int),(m.take i).map fun y => IntKind.wrap .i64 (y + IntKind.wrap .i64 a.f0))) m.length _ (by simp) (fun i hi nx => ?_) (fun nx => ?_) (by omega)
  · rw [m5_L1,if_pos (by simp; omega)]
    dsimp only [letM]
    rw [getIdx_at rfl hi,Option.bind_some,apd_val (by simp; omega),Option.bind_some,wInc (by omega),List.take_succ_eq_append_getElem hi,List.map_append]
    rfl
  · rw [m5_L1,if_neg (by simp),List.take_length]
def mvd (a : R44) (v : R45) : R45 := R45.mk (IntKind.wrap .i64 (v.X + (IntKind.wrap .i64 a.f1))) (IntKind.wrap .i64 (v.Y + (IntKind.wrap .i64 a.f2)))
theorem m5_L2_val {n : Nat} {P : R24} {a : R44} (hm : P.Points.length ≤ 1000) (hn : 2000 < n) {K : List R45 → Option Bool} : loopM (m5_L2 n P a K) n ((0 : Int),([] : List R45)) = K (P.Points.map (mvd a)) := by
  refine loop_run (n := n) (fun i => ((i : Int),(P.Points.take i).map (mvd a))) P.Points.length _ (by simp) (fun i hi nx => ?_) (fun nx => ?_) (by omega)
  · rw [m5_L2,if_pos (by simp; omega)]
    dsimp only [letM]
    rw [getIdx_at rfl hi,Option.bind_some,apd_val (by simp; omega),Option.bind_some,wInc (by omega),List.take_succ_eq_append_getElem hi,List.map_append]
    rfl
  · rw [m5_L2,if_neg (by simp),List.take_length]
theorem alike_of {P : R24} {a : R44} (hV : VecP P) (hq : VecP ⟨P.Points.map (mvd a),P.Before⟩) : Alike P ⟨P.Points.map (mvd a),P.Before⟩ := by
  have hpt : ∀ i,inN P i → pt ⟨P.Points.map (mvd a),P.Before⟩ i = R45.mk ((pt P i).X + IntKind.wrap .i64 a.f1) ((pt P i).Y + IntKind.wrap .i64 a.f2) := fun i hi => by
    obtain ⟨h0,h1⟩ := hi
    have e1 : pt ⟨P.Points.map (mvd a),P.Before⟩ i = mvd a (pt P i) := by
      unfold pt
      rw [List.getD_eq_getElem?_getD,List.getD_eq_getElem?_getD,List.getElem?_map,List.getElem?_eq_getElem (by omega)]; rfl
    have h2 := okV_iff.1 (pt_ok hq i)
    have h3 := okV_iff.1 (pt_ok hV i)
    rw [e1] at h2 ⊢
    unfold mvd at h2 ⊢
    rw [wrap_near (B := 8000) (by omega) (by omega) ⟨h2.1,h2.2.1⟩,wrap_near (B := 8000) (by omega) (by omega) ⟨h2.2.2.1,h2.2.2.2⟩]
  refine ⟨by simp,rfl,fun i j hi hj => ?_⟩
  unfold D
  rw [hpt i hi,hpt j hj]
  unfold dst
  dsimp only
  congr 1 <;> congr 1 <;> omega
theorem m18_no' {n : Nat} {P : R24} {m : List Int} (hv : vP P = true) (h : okM P m = false) (hn : 2000 < n) : m18 n P m = some (0,2) := by
  have hg := good_of hv
  have hP := hg.few.1
  by_cases hl : (m.length : Int) = P.Points.length
  · have := m18_no (n := n) (P := P) (m := m) (by omega) (fun _ => h) hn
    rw [hv,if_pos rfl] at this
    exact this
  · unfold m18
    rw [eta24,m22_val hn,Option.bind_some,hv,if_neg (by simp)]
    unfold m48
    rw [decide_eq_false hl,gdO_false,Option.bind_some,Bool.false_and,Option.bind_some,if_pos (by rfl)]
theorem m5_true (P : R24) (m : List Int) (a : R44) : m5 200000 P m a = some true := by
  unfold m5
  simp only [m11_eval,Option.bind_some,m12,Bool.not_true,Bool.not_false,gdO_true,Bool.false_or,m14,eta24,Bool.not_not]
  by_cases hf : ((decide ((P.Points.length : Int) ≤ (9 : Int))) && (decide ((P.Before.length : Int) ≤ (12 : Int)))) = true
  · rw [hf,gdO_true,m15_val (by omega),Option.bind_some]
    by_cases hc : ((!true || !vP P) || decide ((8 : Int) < (P.Points.length : Int))) = true
    · rw [if_pos hc]
    · rw [if_neg hc]
      simp only [Bool.not_true,Bool.false_or,Bool.or_eq_true,Bool.not_eq_true',not_or,decide_eq_true_eq,Bool.not_eq_false] at hc
      obtain ⟨hv,h8⟩ := hc
      have hg := good_of hv
      have h1 := hg.one
      by_cases hm : okM P m = true
      · have hm' := okM_iff.1 hm
        have hml := hm'.len
        obtain ⟨v,q1,q2⟩ := m18_ok (n := 200000) hv hm' (by omega) (by omega)
        rw [q2,Option.bind_some,if_neg (by simp),jn,m5_L1_val (by omega) (by omega),jn,m5_L2_val (by omega) (by omega)]
        have hmore : ∃ w e,m18 200000 P (m.map fun y => IntKind.wrap .i64 (y + IntKind.wrap .i64 a.f0)) = some (w,e) ∧ (e = 0 → w = v) := by
          cases hk : okM P (m.map fun y => IntKind.wrap .i64 (y + IntKind.wrap .i64 a.f0)) with
          | false => exact ⟨0,2,m18_no' hv hk (by omega),fun h => by omega⟩
          | true =>
            have hk' := okM_iff.1 hk
            have e : (m.map fun y => IntKind.wrap .i64 (y + IntKind.wrap .i64 a.f0)) = m.map (· + IntKind.wrap .i64 a.f0) := List.map_congr_left fun y hy => by
              have hb := hk'.bd _ (List.mem_map.2 ⟨y,hy,rfl⟩)
              exact wrap_near (B := 20000) (by omega) (hm'.bd y hy) hb
            obtain ⟨w,r1,r2⟩ := m18_ok (n := 200000) hv hk' (by omega) (by omega)
            refine ⟨w,0,r2,fun _ => ?_⟩
            rw [e] at r1
            exact r1.uniq (q1.more hml h1)
        obtain ⟨w,e,s1,s2⟩ := hmore
        rw [s1,Option.bind_some,if_neg (by
          simp only [Bool.and_eq_true,decide_eq_true_eq,Bool.not_eq_true',decide_eq_false_iff_not]
          rintro ⟨h,h'⟩
          exact h' (s2 h)),m22_val (by omega),Option.bind_some]
        cases hq : vP ⟨P.Points.map (mvd a),P.Before⟩ with
        | false =>
          rw [if_pos (by rfl),m15_val (by omega),Option.bind_some,hq]; rfl
        | true =>
          have hgq := good_of hq
          have hal := alike_of hg.vec hgq.vec
          obtain ⟨u,t1,t2⟩ := m18_ok (n := 200000) hq (hal.okm hm') (by rw [hal.len]; omega) (by omega)
          obtain rfl := t1.uniq (hal.ot h1 q1)
          have hex := hal.exact hv hq
          have e4 : exactS P = (shS P (P.Points.length - 1) [0] [],tourL P (shS P (P.Points.length - 1) [0] []),0) := by unfold exactS; rw [hv,if_neg (by simp),if_neg (by omega)]
          have hln := exactS_len (P := P) (by omega)
          rw [if_neg (by simp),t2,Option.bind_some,m13_val (by omega),Option.bind_some,m13_val (by omega),Option.bind_some,hex,m17_val (by omega) (by omega),e4]
          simp [gdO,letM]
      · have hm' : okM P m = false := by rw [← Bool.not_eq_true]; exact hm
        rw [m18_no' hv hm' (by omega),Option.bind_some,if_pos (by rfl)]; rfl
  · rw [(Bool.not_eq_true _).mp hf]
    simp [gdO]
end Go.AB
