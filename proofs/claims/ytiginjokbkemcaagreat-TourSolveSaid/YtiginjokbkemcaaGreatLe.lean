import Derived.Test.YtiginjokbkemcaaGreatLd
set_option linter.unusedVariables false
namespace Go.AB
open Go
theorem m102_val {n : Nat} {k : Nat} (hk : k ≤ 1000) : m102 n 1 (k : Int) = some (0,(k : Int)) := by
  unfold m102 letM
  have h1 : andI .u64 1 4294967295 = 1 := by decide
  have h2 : shrI .u64 1 32 = 0 := by decide
  have h3 : andI .u64 (k : Int) 4294967295 = k := by
    have : ∀ k : Nat,k ≤ 1000 → andI .u64 (k : Int) 4294967295 = k := by decide +kernel
    exact this k hk
  have h4 : shrI .u64 (k : Int) 32 = 0 := by
    have : ∀ k : Nat,k ≤ 1000 → shrI .u64 (k : Int) 32 = 0 := by decide +kernel
    exact this k hk
  have w : ∀ x : Int,0 ≤ x → x ≤ 1000 → IntKind.wrap .u64 x = x := fun x h0 h1 => by
    simp [IntKind.wrap,IntKind.signed,IntKind.bits]; omega
  have h5 : andI .u64 0 4294967295 = 0 := by decide
  have h6 : shrI .u64 0 32 = 0 := by decide
  simp only [h1,h2,h3,h4,Int.one_mul,Int.zero_mul,Int.mul_zero,w k (by omega) (by omega),w 0 (by omega) (by omega),Int.add_zero,h5,h6]
def fillT (v : Int) (N i : Nat) : List Int := List.replicate (min i N) v ++ List.replicate (N - i) 0
theorem fillT_len {v : Int} {N i : Nat} : (fillT v N i).length = N := by simp [fillT]; omega
theorem m81o_val {n : Nat} {v : Int} {N : Nat} (hN : N ≤ 1000) (hn : 2000 < n) : m81o n [v] (N : Int) = some (List.replicate N v) := by
  unfold m81o m95
  have w : IntKind.wrap .u64 (N : Int) = N := by simp [IntKind.wrap,IntKind.signed,IntKind.bits]; omega
  have w1 : IntKind.wrap .u64 (([v] : List Int).length : Int) = 1 := by
    show IntKind.wrap .u64 (1 : Int) = 1
    decide
  rw [if_neg (by simp),w,w1,m102_val hN]
  simp only [oB]
  rw [if_neg (by simp; omega),wrap64 (by omega) (by omega),mk_val (k := N) rfl rfl (by omega),oB]
  have hc : cpy (List.replicate N (0 : Int)) 0 (List.replicate N (0 : Int)).length [v] = some (fillT v N (min 1 N)) := by
    unfold cpy
    rw [if_pos (by simp)]
    congr 1
    unfold fillT
    cases N with
    | zero => simp
    | succ N => simp [List.replicate_succ]
  rw [hc,oB]
  dsimp only [letM,jn]
  have key : (fun o => o = some (List.replicate N v)) (loopM (m81o_L1 n fun p => some p) n (((min ([v] : List Int).length (List.replicate N (0 : Int)).length : Nat) : Int),fillT v N (min 1 N))) := by
    refine loopM_ind (fun m x => ∃ i,i ≤ N ∧ (0 < N → 0 < i) ∧ m = N - i ∧ x = ((i : Int),fillT v N i)) (fun o => o = some (List.replicate N v)) ?_ n (N - min 1 N) _ ⟨min 1 N,by omega,by omega,rfl,by simp⟩ (by omega)
    rintro m x ⟨i,hi,h0,rfl,rfl⟩
    rcases Nat.lt_or_ge i N with h1 | h1
    · refine .inl ⟨N - (i + min i (N - i)),_,by have := h0 (by omega); omega,⟨i + min i (N - i),by omega,by omega,rfl,rfl⟩,fun nx => ?_⟩
      have hs : slc (fillT v N i) 0 (i : Int) = some (List.replicate i v) := by
        rw [slc_val (b := fillT v N i) (l := 0) (h := (i : Int)) (i := 0) (j := i) rfl rfl (by omega) (by rw [fillT_len]; omega)]
        congr 1
        unfold fillT
        rw [List.drop_zero,Nat.sub_zero,List.take_append_of_le_length (by simp; omega),List.take_replicate]
        congr 1; omega
      have hcp : cpy (fillT v N i) (0 + ((i : Int)).toNat * 1) ((fillT v N i).length - ((i : Int)).toNat) (List.replicate i v) = some (fillT v N (i + min i (N - i))) := by
        unfold cpy
        rw [if_pos (by rw [fillT_len]; simp; omega)]
        congr 1
        simp only [fillT_len,Int.toNat_natCast,List.length_replicate,Nat.mul_one,Nat.zero_add,List.take_replicate]
        unfold fillT
        have e1 : (List.replicate (min i N) v ++ List.replicate (N - i) 0).take i = List.replicate i v := by
          rw [List.take_append_of_le_length (by simp; omega),List.take_replicate]
          congr 1; omega
        have e2 : (List.replicate (min i N) v ++ List.replicate (N - i) 0).drop (i + min i (N - i)) = List.replicate (N - (i + min i (N - i))) 0 := by
          rw [List.drop_append,List.drop_replicate,List.drop_replicate]
          have a1 : min i N - (i + min i (N - i)) = 0 := by omega
          rw [a1]
          simp only [List.replicate_zero,List.nil_append,List.length_replicate]
          congr 1; omega
        rw [e1,e2,← List.replicate_append_replicate.symm]
        congr 2
        omega
      rw [m81o_L1,if_pos (by simp [fillT_len]; omega),hs,oB,oB,hcp,oB,letM_eq,fillT_len,Int.toNat_natCast,List.length_replicate,wrap64 (by omega) (by omega)]
      congr 2
    · have : i = N := by omega
      subst this
      refine .inr ⟨_,rfl,fun nx => ?_⟩
      rw [m81o_L1,if_neg (by simp [fillT_len])]
      unfold fillT
      simp
  exact key
end Go.AB
