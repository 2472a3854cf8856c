import Derived.Test.YtpccmcepgllccaaGreatLf
set_option linter.unusedVariables false
namespace Go.AB
open Go
theorem free_loop {n : Nat} {q : Int × List Int} {t : Int} {K : Bool → Option (List Int)} (h : q.2.length < n) (hl : q.2.length ≤ 100000) : loopM (m16_L13 n q t K) n (true,(0 : Int)) = K (decide (¬ t ∈ q.2)) := by
  refine (loop_fold (S := Bool) (fun i b => (b,(i : Int))) q.2.length (fun i b => b && !decide (q.2.getD i 0 = t)) (fun _ _ => True) K ?_ ?_ (s0 := true) trivial h).trans ?_
  · intro i b hi _
    refine ⟨trivial,fun nx => ?_⟩
    rw [m16_L13,if_pos (by simp; omega)]
    dsimp only
    rw [get_getD (d := 0) hi,oB,letM_eq,wrap64 (by omega) (by omega)]
    rfl
  · intro b _ nx
    rw [m16_L13,if_neg (by simp)]
  · congr 1
    rw [foldN_all (g := fun b x => b && !decide (x = t))]
    have : ∀ (l : List Int) (b : Bool),l.foldl (fun b x => b && !decide (x = t)) b = (b && decide (¬ t ∈ l)) := by
      intro l
      induction l with
      | nil => intro b; simp
      | cons x l ih =>
        intro b
        rw [List.foldl_cons,ih,Bool.and_assoc]
        congr 1
        rw [Bool.eq_iff_iff]
        simp only [Bool.and_eq_true,Bool.not_eq_true',decide_eq_false_iff_not,decide_eq_true_eq,List.mem_cons,not_or]
        constructor
        · rintro ⟨h1,h2⟩; exact ⟨fun e => h1 e.symm,h2⟩
        · rintro ⟨h1,h2⟩; exact ⟨fun e => h1 e.symm,h2⟩
    rw [this,Bool.true_and]
theorem m16_val {n : Nat} {l : List R63} {done : List Int} {ch : List UInt8} (hd : ordB l.length done = true) (hl : l.length ≤ 1000) (hn : 2000 < n) (hdl : done.length ≤ l.length) :
    ∃ o,m16 n l done ch = some o ∧ comp l o ∧ done <+: o := by
  unfold m16 jn
  rw [apd_val (by simp; omega),oB,List.nil_append]
  dsimp only
  refine loopM_ind (fun m x => ∃ (i : Nat) (out : List Int),x = ((i : Int),out) ∧ m = l.length - out.length ∧ out.length ≤ l.length ∧ i + done.length = out.length ∧ ordB l.length out = true ∧ done <+: out) (fun r => ∃ o,r = some o ∧ comp l o ∧ done <+: o) ?_ n (l.length - done.length) _
    ⟨0,done,rfl,rfl,hdl,by omega,hd,List.prefix_refl _⟩ (by omega)
  rintro m x ⟨i,out,rfl,rfl,hol,hi,ho,hp⟩
  rcases Nat.lt_or_ge out.length l.length with h1 | h1
  · have inner : ∀ (p : Nat),p < 256 → ∃ v : Nat,v < l.length ∧ ¬ (v : Int) ∈ out ∧ ∀ K : List Int → Option (List Int),loopM (m16_L12 n l ((i : Int),out) (p : Int) K) n (0 : Int) = K (out ++ [(v : Int)]) := by
      intro p hp
      have at_ : ∀ j : Nat,j < l.length → (IntKind.wrap .i64 ((p : Int) + (j : Int))).tmod (l.length : Int) = (((p + j) % l.length : Nat) : Int) := by
        intro j hj
        rw [wrap64 (by omega) (by omega),show (p : Int) + (j : Int) = ((p + j : Nat) : Int) from by omega,tmod_nat]
      obtain ⟨v,hv,hvm⟩ := free_ex h1
      -- the first free one
      have ex : ∃ j,j < l.length ∧ ¬ (((p + j) % l.length : Nat) : Int) ∈ out := by
        refine ⟨(v + (l.length - p % l.length)) % l.length,Nat.mod_lt _ (by omega),?_⟩
        have : (p + (v + (l.length - p % l.length)) % l.length) % l.length = v := by
          have h2 : p % l.length < l.length := Nat.mod_lt _ (by omega)
          rw [Nat.add_mod,Nat.mod_mod,← Nat.add_mod,show p + (v + (l.length - p % l.length)) = v + (l.length + (p - p % l.length)) from by have := Nat.mod_le p l.length; omega]
          have h3 : l.length ∣ (p - p % l.length) := Nat.dvd_sub_mod p
          obtain ⟨c,hc⟩ := h3
          rw [hc,show v + (l.length + l.length * c) = v + l.length * (c + 1) from by rw [Nat.mul_add,Nat.mul_one]; omega,Nat.add_mul_mod_self_left,Nat.mod_eq_of_lt hv]
        rw [this]; exact hvm
      have least : ∃ j,j < l.length ∧ ¬ (((p + j) % l.length : Nat) : Int) ∈ out ∧ ∀ j',j' < j → (((p + j') % l.length : Nat) : Int) ∈ out := by
        obtain ⟨j,hj,hjm⟩ := ex
        induction j using Nat.strongRecOn with
        | _ j ih =>
          by_cases h : ∃ j',j' < j ∧ ¬ (((p + j') % l.length : Nat) : Int) ∈ out
          · obtain ⟨j',h2,h3⟩ := h
            exact ih j' h2 (by omega) h3
          · exact ⟨j,hj,hjm,fun j' hj' => Classical.byContradiction fun hh => h ⟨j',hj',hh⟩⟩
      obtain ⟨j,hj,hjm,hjl⟩ := least
      refine ⟨(p + j) % l.length,Nat.mod_lt _ (by omega),hjm,fun K => ?_⟩
      refine loop_findP (fun i => (i : Int)) l.length (fun j => decide (¬ (((p + j) % l.length : Nat) : Int) ∈ out)) (fun j => K (out ++ [(((p + j) % l.length : Nat) : Int)])) (K out) (fun r => r = K (out ++ [(((p + j) % l.length : Nat) : Int)])) ?_ ?_ ?_ (by omega) (fun j' h2 h3 h4 => ?_) fun h2 => ?_
      · intro j' hj' hq nx
        rw [m16_L12,if_pos (by simp; omega)]
        unfold asrt jn
        rw [if_pos (by omega)]
        dsimp only
        rw [letM_eq,at_ j' hj',free_loop (by dsimp only; omega) (by dsimp only; omega)]
        dsimp only
        rw [hq,if_neg (by simp),letM_eq,wrap64 (by omega) (by omega)]
        rfl
      · intro j' hj' hq nx
        rw [m16_L12,if_pos (by simp; omega)]
        unfold asrt jn
        rw [if_pos (by omega)]
        dsimp only
        rw [letM_eq,at_ j' hj',free_loop (by dsimp only; omega) (by dsimp only; omega)]
        dsimp only
        rw [hq,if_pos rfl,apd_val (by simp; omega),oB]
      · intro nx
        rw [m16_L12,if_neg (by simp)]
      · have : j' = j := by
          rcases Nat.lt_or_ge j' j with h5 | h5
          · have := of_decide_eq_true h3
            exact absurd (hjl j' h5) this
          · rcases Nat.lt_or_ge j j' with h6 | h6
            · have := h4 j h6
              rw [decide_eq_false_iff_not] at this
              exact absurd hjm this
            · omega
        rw [this]
      · have := h2 j hj
        rw [decide_eq_false_iff_not] at this
        exact absurd hjm this
    obtain ⟨p,hpb,hpe⟩ : ∃ p : Nat,p < 256 ∧ ∀ (K : Int → Option (List Int)),(if (decide ((i : Int) < (ch.length : Int))) = true then ((getIdx ch (i : Int)).bind fun y_124 => (letM ((IntKind.wrap .i64 (y_124.toNat : Int))) fun t9_125 => (K t9_125))) else (K (0 : Int))) = K (p : Int) := by
      rcases Nat.lt_or_ge i ch.length with h2 | h2
      · refine ⟨ch[i].toNat,UInt8.toNat_lt _,fun K => ?_⟩
        have := UInt8.toNat_lt ch[i]
        rw [if_pos (by simp; omega),getIdx_at rfl h2,oB,letM_eq,wrap64 (by omega) (by omega)]
      · exact ⟨0,by omega,fun K => by rw [if_neg (by simp; omega)]; rfl⟩
    obtain ⟨v,hv,hvm,hin⟩ := inner p hpb
    refine .inl ⟨l.length - (out.length + 1),(((i + 1 : Nat) : Int),out ++ [(v : Int)]),by omega,⟨i + 1,_,rfl,by simp,by simp; omega,by simp; omega,ord_snoc ho hv hvm,hp.trans (List.prefix_append _ _)⟩,fun nx => ?_⟩
    rw [m16_L9,if_pos (by simp; omega)]
    unfold jn
    dsimp only
    refine (hpe _).trans ?_
    rw [hin,letM_eq,wrap64 (by omega) (by omega)]
    rfl
  · refine .inr ⟨_,⟨out,rfl,⟨ho,by omega⟩,hp⟩,fun nx => ?_⟩
    rw [m16_L9,if_neg (by simp; omega)]
theorem m21_val {n : Nat} {l : List R63} {most : Bool} (hn : 1000 < n) :
    m21 n l most = some (if vld l = true then (if l.length ≤ 7 then (srch l most l.length [] [],val l (srch l most l.length [] []) most,0) else ([],0,9)) else ([],0,1)) := by
  unfold m21
  rw [m25_val (by omega),oB]
  by_cases hv : vld l = true
  · rw [hv,if_neg (by simp),if_pos rfl]
    by_cases h : l.length ≤ 7
    · rw [if_neg (by simp; omega),if_pos h,m39_val hv hn]
      rfl
    · rw [if_pos (by simp; omega),if_neg h]
  · rw [(Bool.not_eq_true _).mp hv]; rfl
end Go.AB
